/- QueueApart: live leases are of different items. No conditions. -/
import Derived.Test.YthjogeodclpafaaM5
import Derived.Test.YthjogeodclpafaaRows
set_option linter.unusedVariables false
set_option linter.unusedSimpArgs false

section
set_option linter.unusedVariables false
set_option linter.unusedSimpArgs false
namespace Go.Proofs.Ythjogeodclpafaa.AM
open Go Go.Proofs.Ythjogeodclpafaa

def leItem (l : Le) : Int := l.1

theorem del_gen {α : Type} (f : α → Int) (n : Int) : ∀ (xs : List α), (xs.Pairwise fun a b => f a < f b) → dropAt xs (idxE (fun w => f w == n) xs) = xs.filter fun a => f a != n
  | [], _ => by simp [dropAt, idxE]
  | a :: r, hp => by
    obtain ⟨hp1, hp2⟩ := List.pairwise_cons.1 hp
    have ih := del_gen f n r hp2
    by_cases e : f a = n
    · have e1 : (f a == n) = true := beq_iff_eq.2 e
      have h0 : idxE (fun w => f w == n) (a :: r) = 0 := by simp [idxE, List.findIdx_cons, e1]
      have hb : (f a != n) = false := by rw [e]; simp
      rw [h0, List.filter_cons, if_neg (by rw [hb]; simp)]
      show [] ++ r = _
      rw [List.nil_append]
      symm
      rw [List.filter_eq_self]
      intro y hy
      have := hp1 y hy
      exact bne_iff_ne.2 (by omega)
    · have e1 : (f a == n) = false := beq_eq_false_iff_ne.2 e
      have hb : (f a != n) = true := bne_iff_ne.2 e
      rw [List.filter_cons, if_pos hb, ← ih]
      cases ha : (r.any fun w => f w == n) with
      | false =>
        have h1 : idxE (fun w => f w == n) (a :: r) = -1 := by unfold idxE; rw [List.any_cons, e1, ha]; rfl
        have h2 : idxE (fun w => f w == n) r = -1 := by unfold idxE; rw [ha]; rfl
        rw [h1, h2]
        rfl
      | true =>
        have h2 : idxE (fun w => f w == n) r = ((r.findIdx fun w => f w == n : Nat) : Int) := by unfold idxE; rw [ha]; rfl
        have h1 : idxE (fun w => f w == n) (a :: r) = ((r.findIdx fun w => f w == n : Nat) : Int) + 1 := by
          unfold idxE
          rw [List.any_cons, e1, ha, List.findIdx_cons, e1]
          simp
        rw [h1, h2]
        unfold dropAt
        rw [if_neg (by omega), if_neg (by omega)]
        have t1 : (((r.findIdx fun w => f w == n : Nat) : Int) + 1).toNat = (r.findIdx fun w => f w == n) + 1 := by omega
        rw [t1, Int.toNat_natCast]
        rfl

theorem dist_eq {α : Type} (f : α → Int) : ∀ {ls : List α}, (ls.Pairwise fun a b => f a ≠ f b) → ∀ {a b : α}, a ∈ ls → b ∈ ls → f a = f b → a = b
  | [], _, a, b, ha, _, _ => by cases ha
  | c :: r, hp, a, b, ha, hb, e => by
    obtain ⟨hp1, hp2⟩ := List.pairwise_cons.1 hp
    rcases List.mem_cons.1 ha with e1 | ha1
    · rcases List.mem_cons.1 hb with e2 | hb1
      · rw [e1, e2]
      · rw [e1] at e; exact absurd e (hp1 b hb1)
    · rcases List.mem_cons.1 hb with e2 | hb1
      · rw [e2] at e; exact absurd e.symm (hp1 a ha1)
      · exact dist_eq f hp2 ha1 hb1 e

theorem asc_dist {α : Type} {f : α → Int} {ls : List α} (h : ls.Pairwise fun a b => f a < f b) : ls.Pairwise fun a b => f a ≠ f b :=
  h.imp fun h e => by rw [e] at h; exact Int.lt_irrefl _ h

/-- Ascending lists with the same members are equal. -/
theorem asc_ext {α : Type} (f : α → Int) : ∀ {a b : List α}, (a.Pairwise fun x y => f x < f y) → (b.Pairwise fun x y => f x < f y) → (∀ m, m ∈ a ↔ m ∈ b) → a = b
  | [], [], _, _, _ => rfl
  | [], y :: b, _, _, h => absurd ((h y).2 (by simp)) (by simp)
  | x :: a, [], _, _, h => absurd ((h x).1 (by simp)) (by simp)
  | x :: a, y :: b, ha, hb, h => by
    obtain ⟨a1, a2⟩ := List.pairwise_cons.1 ha
    obtain ⟨b1, b2⟩ := List.pairwise_cons.1 hb
    have hxy : x = y := by
      rcases List.mem_cons.1 ((h x).1 (by simp)) with e | hx
      · exact e
      · rcases List.mem_cons.1 ((h y).2 (by simp)) with e | hy
        · exact e.symm
        · have q1 := b1 x hx
          have q2 := a1 y hy
          omega
    subst hxy
    congr 1
    refine asc_ext f a2 b2 fun m => ⟨fun hm => ?_, fun hm => ?_⟩
    · rcases List.mem_cons.1 ((h m).1 (by simp [hm])) with e | q
      · have := a1 m hm; rw [e] at this; exact absurd this (Int.lt_irrefl _)
      · exact q
    · rcases List.mem_cons.1 ((h m).2 (by simp [hm])) with e | q
      · have := b1 m hm; rw [e] at this; exact absurd this (Int.lt_irrefl _)
      · exact q

/-! ### Giving a lease -/
def insL (l : Le) : List Le → List Le
  | [] => [l]
  | a :: r => if leItem a < leItem l then a :: insL l r else if leItem a = leItem l then l :: r else l :: a :: r

theorem posL_cons (a : Le) (r : List Le) (n : Int) : posL (a :: r) n = if leItem a < n then posL r n + 1 else 0 := by
  unfold posL
  rw [List.takeWhile_cons]
  by_cases h : leItem a < n
  · have : decide (a.1 < n) = true := decide_eq_true h
    rw [this, if_pos h]; rfl
  · have : decide (a.1 < n) = false := decide_eq_false h
    rw [this, if_neg h]; rfl

theorem give_ins (l : Le) : ∀ (ls : List Le), (ls.Pairwise fun a b => leItem a < leItem b) → giveQ ls l = insL l ls
  | [], _ => by simp [giveQ, leaseQ, idxE, insL, posL]
  | a :: r, hp => by
    obtain ⟨hp1, hp2⟩ := List.pairwise_cons.1 hp
    have ih := give_ins l r hp2
    unfold insL
    by_cases e : leItem a = leItem l
    · have e1 : (a.1 == l.1) = true := beq_iff_eq.2 e
      have h0 : leaseQ (a :: r) l.1 = 0 := by simp [leaseQ, idxE, List.findIdx_cons, e1]
      unfold giveQ
      rw [h0, if_pos (by omega), if_neg (by rw [e]; exact Int.lt_irrefl _), if_pos e]
      rfl
    · have e1 : (a.1 == l.1) = false := beq_eq_false_iff_ne.2 e
      cases ha : (r.any fun w => w.1 == l.1) with
      | true =>
        obtain ⟨y, hy, hyl⟩ := List.any_eq_true.1 ha
        have hlt : leItem a < leItem l := by
          have h1 := hp1 y hy
          have h2 : leItem y = leItem l := eq_of_beq hyl
          omega
        have h2 : leaseQ r l.1 = ((r.findIdx fun w => w.1 == l.1 : Nat) : Int) := by unfold leaseQ idxE; rw [ha]; rfl
        have h1 : leaseQ (a :: r) l.1 = ((r.findIdx fun w => w.1 == l.1 : Nat) : Int) + 1 := by
          unfold leaseQ idxE
          rw [List.any_cons, e1, ha, List.findIdx_cons, e1]
          simp
        rw [if_pos hlt, ← ih]
        unfold giveQ
        rw [h1, h2, if_pos (by omega), if_pos (by omega)]
        have t1 : (((r.findIdx fun w => w.1 == l.1 : Nat) : Int) + 1).toNat = (r.findIdx fun w => w.1 == l.1) + 1 := by omega
        rw [t1, Int.toNat_natCast]
        rfl
      | false =>
        have h2 : leaseQ r l.1 = -1 := by unfold leaseQ idxE; rw [ha]; rfl
        have h1 : leaseQ (a :: r) l.1 = -1 := by unfold leaseQ idxE; rw [List.any_cons, e1, ha]; rfl
        unfold giveQ at ih ⊢
        rw [h1, if_neg (by omega), posL_cons]
        rw [h2, if_neg (by omega)] at ih
        by_cases hlt : leItem a < leItem l
        · have hlt' : leItem a < l.1 := hlt
          rw [if_pos hlt', if_pos hlt, ← ih]
          rfl
        · have hlt' : ¬ leItem a < l.1 := hlt
          rw [if_neg hlt', if_neg hlt, if_neg e]
          rfl

theorem ins_mem (l : Le) : ∀ {ls : List Le}, (ls.Pairwise fun a b => leItem a < leItem b) → ∀ m, m ∈ insL l ls ↔ m = l ∨ (m ∈ ls ∧ leItem m ≠ leItem l)
  | [], _, m => by simp [insL]
  | a :: r, hp, m => by
    obtain ⟨hp1, hp2⟩ := List.pairwise_cons.1 hp
    have ih := ins_mem l hp2 m
    unfold insL
    split
    · rename_i h
      simp only [List.mem_cons, ih]
      constructor
      · rintro (rfl | h1 | ⟨h1, h2⟩)
        · exact .inr ⟨.inl rfl, by omega⟩
        · exact .inl h1
        · exact .inr ⟨.inr h1, h2⟩
      · rintro (h1 | ⟨h1 | h1, h2⟩)
        · exact .inr (.inl h1)
        · exact .inl h1
        · exact .inr (.inr ⟨h1, h2⟩)
    · split
      · rename_i h1 h2
        simp only [List.mem_cons]
        constructor
        · rintro (h | h)
          · exact .inl h
          · exact .inr ⟨.inr h, by have := hp1 m h; omega⟩
        · rintro (h | ⟨h | h, h3⟩)
          · exact .inl h
          · subst h; exact absurd h2 h3
          · exact .inr h
      · rename_i h1 h2
        simp only [List.mem_cons]
        constructor
        · rintro (h | h | h)
          · exact .inl h
          · subst h; exact .inr ⟨.inl rfl, h2⟩
          · exact .inr ⟨.inr h, by have := hp1 m h; omega⟩
        · rintro (h | ⟨h, _⟩)
          · exact .inl h
          · exact .inr h

theorem ins_asc (l : Le) : ∀ {ls : List Le}, (ls.Pairwise fun a b => leItem a < leItem b) → (insL l ls).Pairwise fun a b => leItem a < leItem b
  | [], _ => by simp [insL]
  | a :: r, hp => by
    obtain ⟨hp1, hp2⟩ := List.pairwise_cons.1 hp
    have ih := ins_asc l hp2
    unfold insL
    split
    · rename_i h
      refine List.pairwise_cons.2 ⟨fun m hm => ?_, ih⟩
      rcases (ins_mem l hp2 m).1 hm with rfl | ⟨h1, _⟩
      · exact h
      · exact hp1 m h1
    · split
      · rename_i h1 h2
        exact List.pairwise_cons.2 ⟨fun m hm => by have := hp1 m hm; omega, hp2⟩
      · rename_i h1 h2
        refine List.pairwise_cons.2 ⟨fun m hm => ?_, hp⟩
        rcases List.mem_cons.1 hm with rfl | hm
        · omega
        · have := hp1 m hm; omega

/-! ### Both queues -/
structure SimQ (q w : Q) : Prop where
  items : q.1 = w.1
  most : q.2.2 = w.2.2
  asc : q.1.Pairwise fun a b => numT a < numT b
  le : ∀ a ∈ q.1, numT a ≤ q.2.2
  lasc : q.2.1.Pairwise fun a b => leItem a < leItem b
  inn : ∀ l ∈ q.2.1, ∃ x ∈ q.1, numT x = leItem l
  dist : w.2.1.Pairwise fun a b => leItem a ≠ leItem b
  mem : ∀ l, l ∈ q.2.1 ↔ l ∈ w.2.1

theorem applyQ_cases (q : Q) (x : Ch) : ((applyQ q x).1 ≠ 0 ∧ (applyQ q x).2 = q) ∨ (x.2.2.1 = 3 ∧ q.2.2 < seqC x ∧ applyQ q x = (0, (q.1 ++ [(x.2.1, x.2.2.2.2.2.2.2)], q.2.1, x.2.1))) ∨
    (x.2.2.1 = 4 ∧ applyQ q x = (0, (dropAt q.1 (atQ q.1 x.2.2.2.2.2.1), dropAt q.2.1 (leaseQ q.2.1 x.2.2.2.2.2.1), q.2.2))) ∨ (x.2.2.1 ≠ 3 ∧ x.2.2.1 ≠ 4 ∧ applyQ q x = (0, q)) := by
  unfold applyQ
  split
  · rename_i h; exact .inl ⟨h, rfl⟩
  · rename_i h
    split
    · rename_i h3
      refine .inr (.inl ⟨h3, ?_, rfl⟩)
      have h : checkQ q x = 0 := by simpa using h
      unfold checkQ at h
      split at h
      · cases h
      · split at h
        · cases h
        · rename_i h4
          have h5 : ¬ x.2.1 ≤ q.2.2 := fun e => h4 ⟨h3, e⟩
          exact Int.not_le.1 h5
    · rename_i h3
      split
      · rename_i h4; exact .inr (.inr (.inl ⟨h4, rfl⟩))
      · rename_i h4; exact .inr (.inr (.inr ⟨h3, h4, rfl⟩))

theorem applyR_zero {q : Q} {x : Ch} (h : (applyR q x).1 = 0) : applyR q x = (0, bif x.2.2.1 == 3 then (q.1 ++ [(x.2.1, x.2.2.2.2.2.2.2)], q.2.1, x.2.1) else bif x.2.2.1 == 4 then (q.1.take (atQ q.1 x.2.2.2.2.2.1).toNat ++ q.1.drop ((atQ q.1 x.2.2.2.2.2.1).toNat + 1), dropR q.2.1 x.2.2.2.2.2.1, q.2.2) else q) := by
  unfold applyR at h ⊢
  cases hv : validC x <;> simp only [hv, Bool.not_true, Bool.not_false, cond_true, cond_false] at h ⊢
  · exact absurd h (by decide)
  · cases h3 : (x.2.2.1 == 3) <;> simp only [h3, cond_true, cond_false] at h ⊢
    · cases h4 : (x.2.2.1 == 4) <;> simp only [h4, cond_true, cond_false] at h ⊢
      cases h5 : decide (atQ q.1 x.2.2.2.2.2.1 < 0) <;> simp only [h5, cond_true, cond_false] at h ⊢
      exact absurd h (by decide)
    · cases h4 : decide (x.2.1 ≤ q.2.2) <;> simp only [h4, cond_true, cond_false] at h ⊢
      · cases h5 : decide ((q.1.length : Int) ≥ 16) <;> simp only [h5, cond_true, cond_false] at h ⊢
        exact absurd h (by decide)
      · exact absurd h (by decide)
theorem applyR_bad {q : Q} {x : Ch} (h : (applyR q x).1 ≠ 0) : (applyR q x).2 = q := by
  unfold applyR at h ⊢
  cases hv : validC x <;> simp only [hv, Bool.not_true, Bool.not_false, cond_true, cond_false] at h ⊢
  cases h3 : (x.2.2.1 == 3) <;> simp only [h3, cond_true, cond_false] at h ⊢
  · cases h4 : (x.2.2.1 == 4) <;> simp only [h4, cond_true, cond_false] at h ⊢
    cases h5 : decide (atQ q.1 x.2.2.2.2.2.1 < 0) <;> simp only [h5, cond_true, cond_false] at h ⊢
    exact absurd rfl h
  · cases h4 : decide (x.2.1 ≤ q.2.2) <;> simp only [h4, cond_true, cond_false] at h ⊢
    cases h5 : decide ((q.1.length : Int) ≥ 16) <;> simp only [h5, cond_true, cond_false] at h ⊢
    exact absurd rfl h

theorem sim_apply {q w : Q} (h : SimQ q w) (x : Ch) : (applyQ q x).1 = (applyR w x).1 ∧ SimQ (applyQ q x).2 (applyR w x).2 := by
  obtain ⟨e1, e2, e3⟩ := apply_sim (q := q) (w := w) ⟨h.items, h.most⟩ x
  refine ⟨e1, ?_⟩
  rcases applyQ_cases q x with ⟨a1, a2⟩ | ⟨hk, hlt, a2⟩ | ⟨hk, a2⟩ | ⟨hk3, hk4, a2⟩
  · rw [a2, applyR_bad (by rw [← e1]; exact a1)]; exact h
  · have hr := applyR_zero (q := w) (x := x) (by rw [← e1, a2])
    have k3 : (x.2.2.1 == 3) = true := beq_iff_eq.2 hk
    rw [k3, cond_true] at hr
    rw [a2, hr]
    refine ⟨by show _ ++ _ = _ ++ _; rw [h.items], rfl, ?_, ?_, h.lasc, fun l hl => ?_, h.dist, h.mem⟩
    · rw [List.pairwise_append]
      refine ⟨h.asc, List.pairwise_singleton _ _, fun a ha b hb => ?_⟩
      rw [List.mem_singleton] at hb
      subst hb
      have := h.le a ha
      show numT a < seqC x
      omega
    · intro a ha
      rcases List.mem_append.1 ha with ha | ha
      · have := h.le a ha
        show numT a ≤ seqC x
        omega
      · rw [List.mem_singleton] at ha
        subst ha
        exact Int.le_refl _
    · obtain ⟨y, hy, ey⟩ := h.inn l hl
      exact ⟨y, List.mem_append_left _ hy, ey⟩
  · have hr := applyR_zero (q := w) (x := x) (by rw [← e1, a2])
    have k3 : (x.2.2.1 == 3) = false := by rw [hk]; rfl
    have k4 : (x.2.2.1 == 4) = true := beq_iff_eq.2 hk
    rw [k3, k4, cond_true, cond_false] at hr
    have d1 : dropAt q.1 (atQ q.1 x.2.2.2.2.2.1) = q.1.filter fun a => numT a != x.2.2.2.2.2.1 := del_gen numT x.2.2.2.2.2.1 q.1 h.asc
    have d2 : dropAt q.2.1 (leaseQ q.2.1 x.2.2.2.2.2.1) = q.2.1.filter fun a => leItem a != x.2.2.2.2.2.1 := del_gen leItem x.2.2.2.2.2.1 q.2.1 h.lasc
    have i1 := e2
    rw [a2] at i1 ⊢
    rw [hr] at i1 ⊢
    refine ⟨i1, h.most, ?_, ?_, ?_, ?_, ?_, ?_⟩
    · show (dropAt q.1 _).Pairwise _
      rw [d1]; exact h.asc.filter _
    · intro a ha
      have ha : a ∈ dropAt q.1 (atQ q.1 x.2.2.2.2.2.1) := ha
      rw [d1] at ha
      exact h.le a (List.mem_filter.1 ha).1
    · show (dropAt q.2.1 _).Pairwise _
      rw [d2]; exact h.lasc.filter _
    · intro l hl
      have hl : l ∈ dropAt q.2.1 (leaseQ q.2.1 x.2.2.2.2.2.1) := hl
      rw [d2, List.mem_filter] at hl
      obtain ⟨y, hy, ey⟩ := h.inn l hl.1
      refine ⟨y, ?_, ey⟩
      show y ∈ dropAt q.1 _
      rw [d1, List.mem_filter]
      exact ⟨hy, by rw [ey]; exact hl.2⟩
    · exact h.dist.filter _
    · intro l
      show l ∈ dropAt q.2.1 _ ↔ l ∈ dropR w.2.1 _
      rw [d2]
      unfold dropR
      rw [List.mem_filter, List.mem_filter, h.mem l]
      rfl
  · have hr := applyR_zero (q := w) (x := x) (by rw [← e1, a2])
    have k3 : (x.2.2.1 == 3) = false := beq_eq_false_iff_ne.2 hk3
    have k4 : (x.2.2.1 == 4) = false := beq_eq_false_iff_ne.2 hk4
    rw [k3, k4, cond_false, cond_false] at hr
    rw [a2, hr]
    exact h

theorem liveR_hit (e n t : Int) (l : Le) : liveR e n t l = hitL e t n l := by
  unfold liveR hitL liveL
  rw [Bool.and_assoc]

theorem any_mem {α : Type} {a b : List α} (h : ∀ m, m ∈ a ↔ m ∈ b) (p : α → Bool) : a.any p = b.any p := by
  rw [Bool.eq_iff_iff, List.any_eq_true, List.any_eq_true]
  exact ⟨fun ⟨x, hx, hp⟩ => ⟨x, (h x).1 hx, hp⟩, fun ⟨x, hx, hp⟩ => ⟨x, (h x).2 hx, hp⟩⟩

theorem findR_any (ls : List Le) (e n t : Int) : (findR ls e n t).2 = ls.any (hitL e t n) := by
  have hp : liveR e n t = hitL e t n := funext fun l => liveR_hit e n t l
  unfold findR
  rw [hp]
  cases hf : ls.find? (hitL e t n) with
  | none =>
    show false = _
    rw [List.find?_eq_none] at hf
    symm
    rw [List.any_eq_false]
    exact hf
  | some l =>
    show true = _
    symm
    rw [List.any_eq_true]
    exact ⟨l, List.mem_of_find?_eq_some hf, List.find?_some hf⟩

theorem sim_take {q w : Q} (h : SimQ q w) (c e t hd : Int) : (takeQ q c e t hd).1 = (takeR w c e t hd).1 ∧ SimQ (takeQ q c e t hd).2 (takeR w c e t hd).2 := by
  unfold takeQ takeR
  cases hb : badT c e t hd
  · simp only [Bool.false_eq_true, if_false, cond_false]
    have hfr : freeQ q.2.1 e t = fun x => !(findR w.2.1 e x.1 t).2 := by
      funext x
      unfold freeQ
      rw [findR_any, any_mem h.mem]
    rw [hfr, h.items]
    cases hf : w.1.find? (fun x => !(findR w.2.1 e x.1 t).2) with
    | none => exact ⟨rfl, h⟩
    | some x =>
      refine ⟨rfl, rfl, h.most, ?_, ?_, ?_, ?_, ?_, ?_⟩
      · show w.1.Pairwise _
        rw [← h.items]; exact h.asc
      · intro a ha
        have ha : a ∈ w.1 := ha
        rw [← h.items] at ha
        exact h.le a ha
      · show (giveQ q.2.1 _).Pairwise _
        rw [give_ins _ _ h.lasc]
        exact ins_asc _ h.lasc
      · intro l hl
        have hl : l ∈ giveQ q.2.1 (x.1, c, e, t + hd) := hl
        rw [give_ins _ _ h.lasc, ins_mem _ h.lasc] at hl
        rcases hl with rfl | ⟨hl, _⟩
        · exact ⟨x, List.mem_of_find?_eq_some hf, rfl⟩
        · obtain ⟨y, hy, ey⟩ := h.inn l hl
          exact ⟨y, by rw [← h.items]; exact hy, ey⟩
      · show (dropR w.2.1 x.1 ++ [_]).Pairwise _
        rw [List.pairwise_append]
        refine ⟨h.dist.filter _, List.pairwise_singleton _ _, fun a ha b hb' => ?_⟩
        rw [List.mem_singleton] at hb'
        subst hb'
        have := (List.mem_filter.1 ha).2
        intro e'
        rw [bne_iff_ne] at this
        exact this e'
      · intro l
        show l ∈ giveQ q.2.1 (x.1, c, e, t + hd) ↔ l ∈ dropR w.2.1 x.1 ++ [(x.1, c, e, t + hd)]
        rw [give_ins _ _ h.lasc, ins_mem _ h.lasc, List.mem_append, List.mem_singleton]
        unfold dropR
        rw [List.mem_filter, bne_iff_ne, h.mem l]
        exact ⟨fun q => q.symm, fun q => q.symm⟩
  · exact ⟨rfl, h⟩

theorem findR_mem {ls : List Le} (hd : ls.Pairwise fun a b => leItem a ≠ leItem b) {e n t : Int} {m : Le} : ((findR ls e n t).2 = true ∧ (findR ls e n t).1 = m) ↔ (m ∈ ls ∧ hitL e t n m = true) := by
  have hp : liveR e n t = hitL e t n := funext fun l => liveR_hit e n t l
  have key : ∀ l, hitL e t n l = true → leItem l = n := fun l hl => by
    unfold hitL at hl
    rw [Bool.and_eq_true] at hl
    exact eq_of_beq hl.1
  unfold findR
  rw [hp]
  constructor
  · rintro ⟨h1, h2⟩
    cases hf : ls.find? (hitL e t n) with
    | none => rw [hf] at h1; cases h1
    | some l =>
      rw [hf] at h2
      have h2 : l = m := h2
      subst h2
      exact ⟨List.mem_of_find?_eq_some hf, List.find?_some hf⟩
  · rintro ⟨h1, h2⟩
    cases hf : ls.find? (hitL e t n) with
    | none =>
      rw [List.find?_eq_none] at hf
      exact absurd h2 (hf m h1)
    | some l =>
      refine ⟨rfl, ?_⟩
      show l = m
      exact dist_eq leItem hd (List.mem_of_find?_eq_some hf) h1 (by rw [key l (List.find?_some hf), key m h2])

theorem sim_leases {q w : Q} (h : SimQ q w) (e t : Int) : q.2.1.filter (liveL e t) = leasesR w e t := by
  have fst_key : ∀ x : Tm, (findR w.2.1 e x.1 t).2 = true → leItem (findR w.2.1 e x.1 t).1 = numT x := fun x hx => by
    have := (findR_mem h.dist (e := e) (n := x.1) (t := t)).1 ⟨hx, rfl⟩
    have h2 := this.2
    unfold hitL at h2
    rw [Bool.and_eq_true] at h2
    exact eq_of_beq h2.1
  refine asc_ext leItem (h.lasc.filter _) ?_ fun m => ?_
  · unfold leasesR
    rw [List.pairwise_map]
    have ha : w.1.Pairwise fun a b => numT a < numT b := by rw [← h.items]; exact h.asc
    refine List.Pairwise.imp_of_mem ?_ (ha.filter _)
    intro a b ha hb hlt
    rw [fst_key a (List.mem_filter.1 ha).2, fst_key b (List.mem_filter.1 hb).2]
    exact hlt
  · unfold leasesR
    rw [List.mem_filter, List.mem_map]
    constructor
    · rintro ⟨hm, hl⟩
      obtain ⟨x, hx, ex⟩ := h.inn m hm
      have hh : hitL e t x.1 m = true := by
        unfold hitL
        rw [hl, Bool.and_true]
        exact beq_iff_eq.2 ex.symm
      have := (findR_mem h.dist (e := e) (n := x.1) (t := t)).2 ⟨(h.mem m).1 hm, hh⟩
      exact ⟨x, List.mem_filter.2 ⟨by rw [← h.items]; exact hx, this.1⟩, this.2⟩
    · rintro ⟨x, hx, ex⟩
      have := (findR_mem h.dist (e := e) (n := x.1) (t := t)).1 ⟨(List.mem_filter.1 hx).2, ex⟩
      refine ⟨(h.mem m).2 this.1, ?_⟩
      have h2 := this.2
      unfold hitL at h2
      rw [Bool.and_eq_true] at h2
      exact h2.2

theorem holdsQ_iff {ls : List Le} (hd : ls.Pairwise fun a b => leItem a ≠ leItem b) (c e i t : Int) : holdsQ ls c e i t = true ↔ ∃ l ∈ ls, hitL e t i l = true ∧ l.2.1 = c := by
  unfold holdsQ
  constructor
  · intro h
    cases hf : ls.find? (fun l => l.1 == i) with
    | none => rw [hf] at h; cases h
    | some l =>
      rw [hf] at h
      have h : ((l.2.1 == c) && liveL e t l) = true := h
      rw [Bool.and_eq_true] at h
      have h1 : (l.1 == i) = true := List.find?_some (p := fun l : Le => l.1 == i) hf
      exact ⟨l, List.mem_of_find?_eq_some hf, by unfold hitL; rw [h1, h.2]; rfl, eq_of_beq h.1⟩
  · rintro ⟨l, hl, hh, hc⟩
    unfold hitL at hh
    rw [Bool.and_eq_true] at hh
    cases hf : ls.find? (fun l => l.1 == i) with
    | none =>
      rw [List.find?_eq_none] at hf
      exact absurd hh.1 (hf l hl)
    | some l' =>
      have h1 : (l'.1 == i) = true := List.find?_some (p := fun l : Le => l.1 == i) hf
      have : l' = l := dist_eq leItem hd (List.mem_of_find?_eq_some hf) hl (by
        have a1 : leItem l' = i := eq_of_beq h1
        have a2 : leItem l = i := eq_of_beq hh.1
        rw [a1, a2])
      subst this
      show ((l'.2.1 == c) && liveL e t l') = true
      rw [hh.2, Bool.and_true]
      exact beq_iff_eq.2 hc

theorem sim_holds {q w : Q} (h : SimQ q w) (c e i t : Int) : holdsQ q.2.1 c e i t = ((findR w.2.1 e i t).2 && ((findR w.2.1 e i t).1.2.1 == c)) := by
  rw [Bool.eq_iff_iff, holdsQ_iff (asc_dist h.lasc), Bool.and_eq_true]
  constructor
  · rintro ⟨l, hl, hh, hc⟩
    have := (findR_mem h.dist (e := e) (n := i) (t := t)).2 ⟨(h.mem l).1 hl, hh⟩
    exact ⟨this.1, by rw [this.2]; exact beq_iff_eq.2 hc⟩
  · rintro ⟨h1, h2⟩
    have := (findR_mem h.dist (e := e) (n := i) (t := t)).1 ⟨h1, rfl⟩
    exact ⟨_, (h.mem _).2 this.1, this.2, eq_of_beq h2⟩

theorem sim_forget {q w : Q} (h : SimQ q w) : SimQ (q.1, [], q.2.2) (w.1, [], w.2.2) :=
  ⟨h.items, h.most, h.asc, h.le, List.Pairwise.nil, fun l hl => (by cases hl), List.Pairwise.nil, fun l => Iff.rfl⟩
theorem sim_new : SimQ q0 q0 := ⟨rfl, rfl, List.Pairwise.nil, fun a h => (by cases h), List.Pairwise.nil, fun l hl => (by cases hl), List.Pairwise.nil, fun l => Iff.rfl⟩
theorem sim_fold : ∀ (h : List Ch) (i : Nat) {q w : Q}, SimQ q w → (foldF applyQ h i q).1 = (foldF applyR h i w).1 ∧ (foldF applyQ h i q).2.1 = (foldF applyR h i w).2.1 ∧ SimQ (foldF applyQ h i q).2.2 (foldF applyR h i w).2.2
  | [], i, q, w, h => ⟨rfl, rfl, h⟩
  | x :: r, i, q, w, h => by
    obtain ⟨h1, h2⟩ := sim_apply h x
    simp only [foldF, h1]
    cases hc : ((applyR w x).1 != 0)
    · exact sim_fold r (i + 1) h2
    · exact ⟨rfl, rfl, h⟩
end Go.Proofs.Ythjogeodclpafaa.AM
end

section
set_option linter.unusedVariables false
set_option linter.unusedSimpArgs false
set_option maxRecDepth 100000
namespace Go.Proofs.Ythjogeodclpafaa.AM
open Go Go.Proofs.Ythjogeodclpafaa

theorem light_sat (l : List Ac) (K : SV → List AObj → Prop) (hK : K (bv (lightB l)) []) : Sat Try.prog 30 [.t (.one (.fsl 67 ActT l))] [] K := by
  refine fn_satE tab12 Try.func30 (nfLight l _) ?_
  simp only [true_and, and_true]
  refine ⟨⟨0, rfl, Nat.zero_le _, rfl⟩, fun x ⟨hx, ha⟩ => ⟨fun h => ?_, fun h => ?_⟩⟩
  · simp only [Bool.and_eq_true, decide_eq_true_eq] at h
    have hx' : x < l.length := by omega
    refine ⟨by omega, fun h2 => ?_, fun h2 => ⟨x + 1, by rw [wr_eq (by omega) (by omega)]; rfl, ⟨by omega, ?_⟩, by omega⟩⟩
    · have h3 : shortC (l.getD x (Ty.zero ActT)).2.2.2.2.2 = false := by rw [← Bool.not_eq_true']; exact h2
      have h4 : (l.all fun a => shortC a.2.2.2.2.2) = false := by
        rw [List.all_eq_false]
        exact ⟨_, getD_mem (Ty.zero ActT) hx', by rw [h3]; simp⟩
      unfold lightB at hK
      rw [h4, Bool.and_false] at hK
      exact hK
    · have h3 : shortC (l.getD x (Ty.zero ActT)).2.2.2.2.2 = true := by rw [← Bool.not_eq_false']; exact h2
      rw [take_next (Ty.zero ActT) hx', List.all_append, ha]
      simp only [List.all_cons, List.all_nil, h3, Bool.and_true]
  · unfold lightB at hK
    by_cases hn : (l.length : Int) ≤ 80
    · have hx' : x = l.length := by
        rw [decide_eq_true hn, Bool.and_true] at h
        simp only [decide_eq_false_iff_not] at h
        omega
      subst hx'
      rw [List.take_length] at ha
      rw [ha, Bool.and_true] at hK
      exact hK
    · rw [decide_eq_false hn] at hK ⊢
      exact hK
theorem sat_light : ∀ vs H K, S_light.cps vs H K → Sat Try.prog 30 vs H K := by
  intro vs H K h
  unfold S_light at h
  dsimp only at h
  split at h
  · exact light_sat _ K h
  · exact h.elim
theorem tab13 : TabOK Try.prog (look L13) := look_cons tab12 sat_light

/-! ### Turns -/
section
variable {xs : List Tm} {C T Hh : Int}

theorem turns_len (E i : Nat) (hi : i ≤ xs.length) : (turnsL xs C T Hh E i).length ≤ xs.length := by
  unfold turnsL
  rw [List.length_append, List.length_map, List.length_take]
  split
  · simp; omega
  · simp; omega

theorem turns_mem (E i : Nat) (m : Le) : m ∈ turnsL xs C T Hh E i ↔ (∃ x ∈ xs.take i, (x.1, C, (E : Int) + 1, T + Hh) = m) ∨ (E ≠ 0 ∧ ∃ x ∈ xs.drop i, (x.1, C, (E : Int), T + Hh) = m) := by
  unfold turnsL
  rw [List.mem_append, List.mem_map]
  split
  · rename_i h; simp [h]
  · rename_i h; rw [List.mem_map]; simp [h]

theorem asc_parts (hasc : xs.Pairwise fun a b => numT a < numT b) (i : Nat) : ∀ a ∈ xs.take i, ∀ b ∈ xs.drop i, numT a < numT b := by
  have h := hasc
  rw [← List.take_append_drop i xs, List.pairwise_append] at h
  exact h.2.2

theorem turns_asc (hasc : xs.Pairwise fun a b => numT a < numT b) (E i : Nat) : (turnsL xs C T Hh E i).Pairwise fun a b => leItem a < leItem b := by
  unfold turnsL
  rw [List.pairwise_append]
  refine ⟨?_, ?_, fun a ha b hb => ?_⟩
  · rw [List.pairwise_map]
    exact hasc.sublist (List.take_sublist _ _)
  · split
    · exact List.Pairwise.nil
    · rw [List.pairwise_map]
      exact hasc.sublist (List.drop_sublist _ _)
  · obtain ⟨x, hx, rfl⟩ := List.mem_map.1 ha
    split at hb
    · cases hb
    · obtain ⟨y, hy, rfl⟩ := List.mem_map.1 hb
      exact asc_parts hasc i x hx y hy

theorem turns_free_not (hH : 1 ≤ Hh) {E i : Nat} {x : Tm} (hx : x ∈ xs.take i) : freeQ (turnsL xs C T Hh E i) ((E : Int) + 1) T x = false := by
  unfold freeQ
  have : ((turnsL xs C T Hh E i).any (hitL ((E : Int) + 1) T x.1)) = true := by
    rw [List.any_eq_true]
    refine ⟨(x.1, C, (E : Int) + 1, T + Hh), (turns_mem E i _).2 (.inl ⟨x, hx, rfl⟩), ?_⟩
    unfold hitL liveL
    have e1 : (x.1 == x.1) = true := beq_self_eq_true _
    have e2 : decide (T < T + Hh) = true := decide_eq_true (by omega)
    simp [e1, e2]
  rw [this]; rfl

theorem turns_free (hasc : xs.Pairwise fun a b => numT a < numT b) {E i : Nat} {x : Tm} (hx : x ∈ xs.drop i) : freeQ (turnsL xs C T Hh E i) ((E : Int) + 1) T x = true := by
  unfold freeQ
  have : ((turnsL xs C T Hh E i).any (hitL ((E : Int) + 1) T x.1)) = false := by
    rw [List.any_eq_false]
    intro m hm
    rcases (turns_mem E i m).1 hm with ⟨y, hy, rfl⟩ | ⟨_, y, hy, rfl⟩
    · have hlt := asc_parts hasc i y hy x hx
      have ne : (y.1 == x.1) = false := beq_eq_false_iff_ne.2 fun e => by
        have e : numT y = numT x := e
        omega
      unfold hitL
      simp [ne]
    · have ne : ((E : Int) == (E : Int) + 1) = false := beq_eq_false_iff_ne.2 (by omega)
      unfold hitL liveL
      simp [ne]
  rw [this]; rfl

theorem bad_turns {e : Int} (h1 : 1 ≤ C) (h2 : C ≤ 8) (h3 : 1 ≤ e) (h4 : e ≤ 3) (h5 : 0 ≤ T) (h6 : T ≤ 1073741824) (h7 : 1 ≤ Hh) (h8 : Hh ≤ 1000) : badT C e T Hh = false := by
  unfold badT
  simp only [Bool.or_eq_false_iff, decide_eq_false_iff_not]
  omega

theorem turns_step (hasc : xs.Pairwise fun a b => numT a < numT b) (h1 : 1 ≤ C) (h2 : C ≤ 8) (h5 : 0 ≤ T) (h6 : T ≤ 1073741824) (h7 : 1 ≤ Hh) (h8 : Hh ≤ 1000) {E i : Nat} (hE : E < 3) (hi : i < xs.length) (p : Int) :
    takeQ (xs, turnsL xs C T Hh E i, p) C ((E : Int) + 1) T Hh = ((xs.getD i (Ty.zero Item), ((xs.getD i (Ty.zero Item)).1, C, (E : Int) + 1, T + Hh), 0), (xs, turnsL xs C T Hh E (i + 1), p)) := by
  unfold takeQ
  rw [bad_turns h1 h2 (by omega) (by omega) h5 h6 h7 h8]
  simp only [Bool.false_eq_true, if_false]
  have hd : xs.drop i = xs.getD i (Ty.zero Item) :: xs.drop (i + 1) := by
    rw [List.drop_eq_getElem_cons hi, List.getD_eq_getElem?_getD, List.getElem?_eq_getElem hi]; rfl
  have ht := take_next (Ty.zero Item) hi
  generalize xs.getD i (Ty.zero Item) = x at hd ht ⊢
  have hx : x ∈ xs.drop i := by rw [hd]; simp
  have hf : xs.find? (freeQ (turnsL xs C T Hh E i) ((E : Int) + 1) T) = some x := by
    have hsplit : xs.find? (freeQ (turnsL xs C T Hh E i) ((E : Int) + 1) T) = (xs.take i ++ xs.drop i).find? (freeQ (turnsL xs C T Hh E i) ((E : Int) + 1) T) := by rw [List.take_append_drop]
    rw [hsplit, List.find?_append]
    have hn : (xs.take i).find? (freeQ (turnsL xs C T Hh E i) ((E : Int) + 1) T) = none := by
      rw [List.find?_eq_none]
      intro y hy
      rw [turns_free_not h7 hy]; simp
    rw [hn, hd, List.find?_cons, turns_free hasc hx]
    rfl
  rw [hf]
  dsimp only
  congr 2
  congr 1
  rw [give_ins _ _ (turns_asc hasc E i)]
  refine asc_ext leItem (ins_asc _ (turns_asc hasc E i)) (turns_asc hasc E (i + 1)) fun m => ?_
  rw [ins_mem _ (turns_asc hasc E i), turns_mem, turns_mem, ht]
  have hne1 : ∀ y ∈ xs.take i, numT y ≠ numT x := fun y hy => by have := asc_parts hasc i y hy x hx; omega
  have hne2 : ∀ y ∈ xs.drop (i + 1), numT y ≠ numT x := fun y hy => by
    have := asc_parts hasc (i + 1) x (by rw [ht]; simp) y hy
    omega
  constructor
  · rintro (rfl | ⟨⟨y, hy, rfl⟩ | ⟨h0, y, hy, rfl⟩, hne⟩)
    · exact .inl ⟨x, by simp, rfl⟩
    · exact .inl ⟨y, by simp [hy], rfl⟩
    · rw [hd] at hy
      rcases List.mem_cons.1 hy with rfl | hy
      · exact absurd rfl hne
      · exact .inr ⟨h0, y, hy, rfl⟩
  · rintro (⟨y, hy, rfl⟩ | ⟨h0, y, hy, rfl⟩)
    · rcases List.mem_append.1 hy with hy | hy
      · exact .inr ⟨.inl ⟨y, hy, rfl⟩, hne1 y hy⟩
      · rw [List.mem_singleton] at hy
        subst hy
        exact .inl rfl
    · exact .inr ⟨.inr ⟨h0, y, by rw [hd]; simp [hy], rfl⟩, hne2 y hy⟩

theorem turns_end (h1 : 1 ≤ C) (h2 : C ≤ 8) (h5 : 0 ≤ T) (h6 : T ≤ 1073741824) (h7 : 1 ≤ Hh) (h8 : Hh ≤ 1000) {E : Nat} (hE : E < 3) (p : Int) :
    takeQ (xs, turnsL xs C T Hh E xs.length, p) C ((E : Int) + 1) T Hh = (((0, ⟨#[]⟩), (0, 0, 0, 0), 34), (xs, turnsL xs C T Hh E xs.length, p)) := by
  unfold takeQ
  rw [bad_turns h1 h2 (by omega) (by omega) h5 h6 h7 h8]
  simp only [Bool.false_eq_true, if_false]
  have hf : xs.find? (freeQ (turnsL xs C T Hh E xs.length) ((E : Int) + 1) T) = none := by
    rw [List.find?_eq_none]
    intro y hy
    rw [turns_free_not h7 (by rw [List.take_length]; exact hy)]; simp
  rw [hf]

theorem turns_next (E : Nat) : turnsL xs C T Hh E xs.length = turnsL xs C T Hh (E + 1) 0 := by
  unfold turnsL
  simp

theorem turns_live0 (E i : Nat) : (turnsL xs C T Hh E i).filter (liveL 3 (T + Hh)) = [] := by
  rw [List.filter_eq_nil_iff]
  intro m hm
  rcases (turns_mem E i m).1 hm with ⟨y, hy, rfl⟩ | ⟨_, y, hy, rfl⟩
  · unfold liveL
    have : decide (T + Hh < T + Hh) = false := decide_eq_false (Int.lt_irrefl _)
    simp [this]
  · unfold liveL
    have : decide (T + Hh < T + Hh) = false := decide_eq_false (Int.lt_irrefl _)
    simp [this]
theorem turns_live1 : ((turnsL xs C T Hh 3 0).filter (liveL 3 (T + Hh - 1))).length = xs.length := by
  have : (turnsL xs C T Hh 3 0).filter (liveL 3 (T + Hh - 1)) = turnsL xs C T Hh 3 0 := by
    rw [List.filter_eq_self]
    intro m hm
    rcases (turns_mem 3 0 m).1 hm with ⟨y, hy, rfl⟩ | ⟨_, y, hy, rfl⟩
    · simp at hy
    · unfold liveL
      have : decide (T + Hh - 1 < T + Hh) = true := decide_eq_true (by omega)
      simp [this]
  rw [this]
  simp [turnsL]
end

theorem eqb_self_item (a : Tm) : Ty.eqb Item a a = true := by rw [eqb_item]; simp
theorem eqb_self_lease (a : Le) : Ty.eqb Lease a a = true := by rw [eqb_lease]; simp

/-- What the fold of a history comes to. -/
theorem hist_fold (l : List Int) : ∃ w : Q, (foldF applyQ (histF l) 0 q0).2.1 = 0 ∧ (foldF applyQ (histF l) 0 q0).1 = ((histF l).length : Int) ∧ foldF applyR (histF l) 0 q0 = (((histF l).length : Int), 0, w) ∧ SimQ (foldF applyQ (histF l) 0 q0).2.2 w ∧ (foldF applyQ (histF l) 0 q0).2.2.1.length ≤ 60 ∧ (foldF applyQ (histF l) 0 q0).2.2.2.1 = [] ∧ w.2.1 = [] := by
  have ifold : foldF applyR (histF l) 0 q0 = (((histF l).length : Int), 0, (histCP l).q) := (inv_hist l).fold
  obtain ⟨s1, s2, s3⟩ := sim_fold (histF l) 0 sim_new
  have hh := hist_len l
  have l1 := fold_len applyQ lenQ (histF l) 0 q0
  have l2 := fold_len applyR lenR (histF l) 0 q0
  rw [ifold] at s1 s2 s3 l2
  have z1 : q0.1.length = 0 := rfl
  have z2 : q0.2.1.length = 0 := rfl
  exact ⟨(histCP l).q, s2, s1, ifold, s3, by omega, List.eq_nil_of_length_eq_zero (by omega), List.eq_nil_of_length_eq_zero (by have l22 : (histCP l).q.2.1.length ≤ q0.2.1.length := l2.2; omega)⟩

theorem turns_sat (l : List Int) (c t h : Int) (K : SV → List AObj → Prop) (hK : K (bv true) []) : Sat Try.prog 6 [fi l, iv c, iv t, iv h] [] K := by
  refine fn_satE tab13 Try.func6 (nf6 l c t h _) ?_
  have c1 := Int.emod_nonneg c (b := 8) (by omega)
  have c2 := Int.emod_lt_of_pos c (b := 8) (by omega)
  have t1 := Int.emod_nonneg t (b := 1073741825) (by omega)
  have t2 := Int.emod_lt_of_pos t (b := 1073741825) (by omega)
  have h1 := Int.emod_nonneg h (b := 1000) (by omega)
  have h2 := Int.emod_lt_of_pos h (b := 1000) (by omega)
  have wc : wr (1 + c % 8) = 1 + c % 8 := wr_eq (by omega) (by omega)
  have wh : wr (1 + h % 1000) = 1 + h % 1000 := wr_eq (by omega) (by omega)
  have wt : wr (t % 1073741825 + (1 + h % 1000)) = t % 1073741825 + (1 + h % 1000) := wr_eq (by omega) (by omega)
  have wt1 : wr (t % 1073741825 + (1 + h % 1000) - 1) = t % 1073741825 + (1 + h % 1000) - 1 := wr_eq (by omega) (by omega)
  simp only [wc, wh, wt, wt1]
  have C1 : (1 : Int) ≤ 1 + c % 8 := by omega
  have C2 : 1 + c % 8 ≤ 8 := by omega
  have T2 : t % 1073741825 ≤ 1073741824 := by omega
  have H1 : (1 : Int) ≤ 1 + h % 1000 := by omega
  have H2 : 1 + h % 1000 ≤ 1000 := by omega
  generalize (1 : Int) + c % 8 = C at C1 C2 ⊢
  generalize t % 1073741825 = T at t1 T2 ⊢
  generalize (1 : Int) + h % 1000 = Hh at H1 H2 ⊢
  obtain ⟨w, f1, f2, _, f3, f4, f5, _⟩ := hist_fold l
  have hasc := f3.asc
  have hh := hist_len l
  simp only [true_and, and_true]
  refine ⟨fun e => (by cases e), fun _ => ⟨fun _ => hK, fun hl => ?_⟩⟩
  have hll : l.length ≤ 150 := by
    have : decide ((l.length : Int) ≤ 150) = true := by rw [← Bool.not_eq_false']; exact hl
    simp only [decide_eq_true_eq] at this
    omega
  refine ⟨by unfold lenMax; omega, by omega, fun r hr => ⟨fun _ => ?_, fun e => ?_⟩⟩
  · rw [← hr] at f4 f5 hasc ⊢
    refine ⟨fun e => (by cases e), fun _ => ⟨by omega, by omega, by omega, by omega, by omega, by omega, ⟨0, ⟨rfl, by rw [f5]; simp [turnsL]⟩, by omega⟩, fun E hE => ⟨fun hlt => ?_, fun hge => ?_⟩⟩⟩
    · have hE3 : E < 3 := by simp only [decide_eq_true_eq] at hlt; omega
      have eE : ((E : Int) + 1).toNat - 1 = E := by omega
      have hx0 : r.2.2.1.length ≤ lenMax := by unfold lenMax; omega
      simp only [eE, hx0, true_and]
      refine ⟨⟨0, ⟨rfl, rfl⟩, Nat.zero_le _⟩, fun i hi => ⟨fun ilt => ?_, fun ige => ?_⟩⟩
      · have hi' : i < r.2.2.1.length := by simp only [decide_eq_true_eq] at ilt; omega
        have hst := turns_step (T := T) (Hh := Hh) hasc C1 C2 t1 T2 H1 H2 hE3 hi' r.2.2.2.2
        have hlen := turns_len (xs := r.2.2.1) (C := C) (T := T) (Hh := Hh) E i (by omega)
        refine ⟨by omega, hi', by unfold lenMax; omega, fun r1 hr1 => ?_⟩
        rw [hst] at hr1
        subst hr1
        have e1 : (((0 : Int) != 0) || !Ty.eqb Item ((r.2.2.1.getD i (Ty.zero Item)).1, (r.2.2.1.getD i (Ty.zero Item)).2) ((r.2.2.1.getD i (Ty.zero Item)).1, (r.2.2.1.getD i (Ty.zero Item)).2) || !Ty.eqb Lease ((r.2.2.1.getD i (Ty.zero Item)).1, C, (E : Int) + 1, T + Hh) ((r.2.2.1.getD i (Ty.zero Item)).1, C, (E : Int) + 1, T + Hh)) = false := by
          rw [eqb_self_item, eqb_self_lease]; rfl
        refine ⟨fun q => ?_, fun _ => ⟨i + 1, ⟨by rw [wr_eq (by omega) (by omega)]; rfl, rfl⟩, by omega, by omega⟩⟩
        have q' : (((0 : Int) != 0) || !Ty.eqb Item ((r.2.2.1.getD i (Ty.zero Item)).1, (r.2.2.1.getD i (Ty.zero Item)).2) ((r.2.2.1.getD i (Ty.zero Item)).1, (r.2.2.1.getD i (Ty.zero Item)).2) || !Ty.eqb Lease ((r.2.2.1.getD i (Ty.zero Item)).1, C, (E : Int) + 1, T + Hh) ((r.2.2.1.getD i (Ty.zero Item)).1, C, (E : Int) + 1, T + Hh)) = true := q
        rw [e1] at q'
        cases q'
      · have hi' : i = r.2.2.1.length := by simp only [decide_eq_false_iff_not] at ige; omega
        subst hi'
        have hst := turns_end (xs := r.2.2.1) (T := T) (Hh := Hh) C1 C2 t1 T2 H1 H2 hE3 r.2.2.2.2
        have hlen := turns_len (xs := r.2.2.1) (C := C) (T := T) (Hh := Hh) E r.2.2.1.length (Nat.le_refl _)
        refine ⟨by unfold lenMax; omega, fun r1 hr1 => ?_⟩
        rw [hst] at hr1
        subst hr1
        refine ⟨fun q => (by simp at q), fun _ => ⟨E + 1, ⟨by rw [wr_eq (by omega) (by omega)]; omega, turns_next E⟩, by omega, by omega⟩⟩
    · have hE3 : E = 3 := by simp only [decide_eq_false_iff_not] at hge; omega
      subst hE3
      have hlen := turns_len (xs := r.2.2.1) (C := C) (T := T) (Hh := Hh) 3 0 (Nat.zero_le _)
      have hl3 : (turnsL r.2.2.1 C T Hh 3 0).length ≤ lenMax := by unfold lenMax; omega
      have hx0 : r.2.2.1.length ≤ lenMax := by unfold lenMax; omega
      rw [turns_live0, turns_live1]
      refine ⟨hl3, fun _ => ⟨hl3, hx0, ?_⟩, fun q => (by simp at q)⟩
      simp only [beq_self_eq_true]
      exact hK
  · rw [← hr] at f1
    exact absurd f1 e
end Go.Proofs.Ythjogeodclpafaa.AM
end

section
set_option linter.unusedVariables false
set_option linter.unusedSimpArgs false
set_option maxRecDepth 100000
namespace Go.Proofs.Ythjogeodclpafaa.AM
open Go Go.Proofs.Ythjogeodclpafaa

theorem len150 {n : Nat} (h : (!decide ((n : Int) ≤ 150)) = false) : n ≤ 150 := by
  have : decide ((n : Int) ≤ 150) = true := by rw [← Bool.not_eq_false']; exact h
  simp only [decide_eq_true_eq] at this
  omega

theorem give_len (ls : List Le) (l : Le) : (giveQ ls l).length ≤ ls.length + 1 := by
  unfold giveQ
  split
  · rw [List.length_set]; omega
  · simp; omega
theorem takeQ_len (q : Q) (c e t h : Int) : (takeQ q c e t h).2.1 = q.1 ∧ (takeQ q c e t h).2.2.2 = q.2.2 ∧ (takeQ q c e t h).2.2.1.length ≤ q.2.1.length + 1 := by
  unfold takeQ
  split
  · exact ⟨rfl, rfl, Nat.le_succ _⟩
  · split
    · exact ⟨rfl, rfl, give_len _ _⟩
    · exact ⟨rfl, rfl, Nat.le_succ _⟩

theorem nextK_len {l : List Int} {k : Nat} (h : k ≤ l.length) : nextK l k ≤ l.length := by unfold nextK; split <;> omega

theorem sames_sat (l m : List Int) (x : Ch) (turns : List Int) (K : SV → List AObj → Prop) (hK : K (bv true) []) : Sat Try.prog 9 [fi l, fi m, cv x, fi turns] [] K := by
  refine fn_satE tab13 Try.func9 (nf9 l m x turns _) ?_
  obtain ⟨w, f1, _, fw, fs, flen, fl0, wl0⟩ := hist_fold l
  obtain ⟨v, g1, _, gv, gs, glen, gl0, vl0⟩ := hist_fold m
  have hh := hist_len l
  have hh' := hist_len m
  have e : (x.1, x.2.1, x.2.2.1, x.2.2.2.1, x.2.2.2.2.1, x.2.2.2.2.2.1, x.2.2.2.2.2.2.1, x.2.2.2.2.2.2.2) = x := rfl
  rw [e]
  simp only [true_and, and_true]
  refine ⟨fun e => (by cases e), fun _ => ⟨fun _ => hK, fun hl => ⟨fun _ => hK, fun hm' => ⟨fun _ => hK, fun ht => ⟨fun _ => hK, fun _ => ?_⟩⟩⟩⟩⟩
  have hl := len150 hl
  have hm' := len150 hm'
  have ht := len150 ht
  have hl1 : l.length ≤ lenMax := by unfold lenMax; omega
  have hm1 : m.length ≤ lenMax := by unfold lenMax; omega
  have ht1 : turns.length ≤ lenMax := by unfold lenMax; omega
  refine ⟨hl1, by omega, fun r hr => ⟨fun _ => ⟨hm1, by omega, fun r1 hr1 => ⟨fun _ => ⟨hl1, by omega, fun r2 hr2 => ⟨fun _ => ⟨hm1, by omega, fun r3 hr3 => ⟨fun _ => ?_, fun e => absurd (by rw [hr3, gv]) e⟩⟩, fun e => absurd (by rw [hr2, fw]) e⟩⟩, fun e => absurd (by rw [hr1]; exact g1) e⟩⟩, fun e => absurd (by rw [hr]; exact f1) e⟩⟩
  rw [← hr] at f1 fs flen fl0
  rw [← hr1] at g1 gs glen gl0
  have i2 : r2.2.2.1 = r.2.2.1 := by rw [hr2, fw]; exact fs.items.symm
  have p2 : r2.2.2.2.2 = r.2.2.2.2 := by rw [hr2, fw]; exact fs.most.symm
  have l2 : r2.2.2.2.1 = [] := by rw [hr2, fw]; exact wl0
  have i3 : r3.2.2.1 = r1.2.2.1 := by rw [hr3, gv]; exact gs.items.symm
  have p3 : r3.2.2.2.2 = r1.2.2.2.2 := by rw [hr3, gv]; exact gs.most.symm
  have hb1 : ((r.2.2.2.2 == r1.2.2.2.2 && decide (r.2.2.1 = r1.2.2.1)) == (decide (r.2.2.1 = r1.2.2.1) && r.2.2.2.2 == r1.2.2.2.2)) = true := by rw [Bool.and_comm]; exact beq_self_eq_true _
  have hri : r.2.2.1.length ≤ lenMax := by unfold lenMax; omega
  have z0 : (0 : Nat) ≤ lenMax := Nat.zero_le _
  obtain ⟨a1, a2⟩ := sim_apply (q := (r.2.2.1, [], r.2.2.2.2)) (w := (r.2.2.1, [], r.2.2.2.2)) ⟨rfl, rfl, fs.asc, fs.le, List.Pairwise.nil, fun l hl => (by cases hl), List.Pairwise.nil, fun _ => Iff.rfl⟩ x
  simp only [i2, p2, i3, p3, l2, fl0, hb1, hri, z0, List.filter_nil, List.length_nil, Bool.not_true, Bool.not_false, beq_self_eq_true, decide_true, Bool.and_self, Bool.false_eq_true, Bool.true_eq_false, false_implies, true_implies, forall_const, and_true, true_and, bne_self_eq_false]
  refine ⟨⟨(0, []), ⟨rfl, rfl⟩, Nat.zero_le _, Nat.le_refl _⟩, fun y ⟨hy1, hy2⟩ => ⟨fun hlt => ?_, fun hge => ?_⟩⟩
  · have hk : y.1 < turns.length := by
      have : Int.ofNat y.1 = (y.1 : Int) := rfl
      simp only [decide_eq_true_eq] at hlt; omega
    have k1 := nextK_lt hk
    have k2 := nextK_ge' turns (nextK turns y.1)
    have k3 := nextK_ge' turns (nextK turns (nextK turns y.1))
    have k4 := nextK_len (l := turns) (k := nextK turns (nextK turns y.1)) (nextK_len (nextK_len hy1))
    refine ⟨by omega, by omega, by omega, ht1, by omega, by omega, ht1, by omega, by omega, by omega, ht1, by unfold lenMax; omega, fun r4 hr4 => ?_⟩
    obtain ⟨t1, t2, t3⟩ := takeQ_len (r.2.2.1, y.2, r.2.2.2.2) (1 + nextV turns y.1 4) 1 (nextV turns (nextK turns y.1) 60) (1 + nextV turns (nextK turns (nextK turns y.1)) 30)
    rw [← hr4] at t1 t2 t3
    have t3 : r4.2.2.1.length ≤ y.2.length + 1 := t3
    refine ⟨(nextK turns (nextK turns (nextK turns y.1)), r4.2.2.1), ?_, ⟨k4, by show r4.2.2.1.length ≤ nextK turns (nextK turns (nextK turns y.1)); omega⟩, by show turns.length - nextK turns (nextK turns (nextK turns y.1)) < _; omega⟩
    repeat' (first | trivial | apply And.intro)
  · refine ⟨fun q => absurd q (by decide), fun _ r4 hr4 r5 hr5 => ?_⟩
    rw [← hr4, ← hr5] at a1 a2
    have i5 : r5.2.1 = r4.2.1 := a2.items.symm
    have p5 : r5.2.2.2 = r4.2.2.2 := a2.most.symm
    have hb2 : ((r.2.2.2.2 == r4.2.2.2 && decide (r.2.2.1 = r4.2.1)) == (decide (r.2.2.1 = r4.2.1) && r.2.2.2.2 == r4.2.2.2)) = true := by rw [Bool.and_comm]; exact beq_self_eq_true _
    simp only [← a1, i5, p5, hb2, hK, sgnB, Bool.not_true, Bool.not_false, beq_self_eq_true, decide_true, Bool.and_self, Bool.false_eq_true, Bool.true_eq_false, false_implies, true_implies, forall_const, and_true, true_and, Bool.and_true, Bool.true_and]
    exact hK
end Go.Proofs.Ythjogeodclpafaa.AM
end

section
set_option linter.unusedVariables false
set_option linter.unusedSimpArgs false
set_option maxRecDepth 100000
namespace Go.Proofs.Ythjogeodclpafaa.AM
open Go Go.Proofs.Ythjogeodclpafaa

theorem li_take {xs : List Tm} {ls : List Le} (h : LI xs ls) (p c e t hd : Int) : LI xs (takeQ (xs, ls, p) c e t hd).2.2.1 := by
  have hasc : ls.Pairwise fun a b => leItem a < leItem b := h.asc
  unfold takeQ
  split
  · exact h
  · rename_i hb
    split
    · rename_i x hf
      have hx : x ∈ xs := List.mem_of_find?_eq_some hf
      have hb : badT c e t hd = false := by simpa using hb
      unfold badT at hb
      simp only [Bool.or_eq_false_iff, decide_eq_false_iff_not] at hb
      show LI xs (giveQ ls (x.1, c, e, t + hd))
      rw [give_ins _ _ hasc]
      refine ⟨ins_asc _ hasc, fun l hl => ?_, fun l hl => ?_⟩
      · rcases (ins_mem _ hasc l).1 hl with rfl | ⟨hl, _⟩
        · exact ⟨x, hx, rfl⟩
        · exact h.inn l hl
      · rcases (ins_mem _ hasc l).1 hl with rfl | ⟨hl, _⟩
        · exact ⟨by show (1 : Int) ≤ c; omega, by show (8 : Int) ≥ c; omega⟩
        · exact h.cl l hl
    · exact h

theorem hold_count : ∀ m, m < 8 → ((List.range 8).filter fun j => (((m : Nat) : Int) + 1 == ((j : Nat) : Int) + 1)).length = 1 := by decide

theorem cl_aux (z : Int) (h1 : 1 ≤ z) (h2 : z ≤ 8) : ∃ m : Nat, m < 8 ∧ z = (m : Int) + 1 := ⟨(z - 1).toNat, by omega, by omega⟩

theorem holds_one {xs : List Tm} {ls : List Le} (h : LI xs ls) {e t : Int} {x : Le} (hx : x ∈ ls) (hl : liveL e t x = true) :
    ((List.range 8).filter fun (j : Nat) => holdsQ ls ((j : Int) + 1) e x.1 t).length = 1 := by
  have hd : ls.Pairwise fun a b => leItem a ≠ leItem b := asc_dist (f := leItem) h.asc
  have hh : hitL e t x.1 x = true := by unfold hitL; rw [hl, Bool.and_true]; exact beq_self_eq_true _
  obtain ⟨c1, c2⟩ := h.cl x hx
  have key : ∀ c : Int, holdsQ ls c e x.1 t = ((x.2.1 : Int) == c) := by
    intro c
    rw [Bool.eq_iff_iff, holdsQ_iff hd, beq_iff_eq]
    constructor
    · rintro ⟨l, hl', hh', hc⟩
      have : l = x := dist_eq leItem hd hl' hx (by
        unfold hitL at hh'
        rw [Bool.and_eq_true] at hh'
        exact eq_of_beq hh'.1)
      rw [← this]; exact hc
    · intro hc
      exact ⟨x, hx, hh, hc⟩
  simp only [key]
  have hc : ∃ m : Nat, m < 8 ∧ (x.2.1 : Int) = (m : Int) + 1 := by
    exact cl_aux x.2.1 c1 c2
  obtain ⟨m, hm, e1⟩ := hc
  rw [e1]
  exact hold_count m hm

theorem range_next (p : Nat → Bool) (n : Nat) : ((List.range (n + 1)).filter p).length = ((List.range n).filter p).length + if p n = true then 1 else 0 := by
  rw [List.range_succ, List.filter_append, List.length_append]
  congr 1
  by_cases h : p n = true
  · simp [h]
  · simp [h]

theorem any_next {xs : List Tm} {k : Nat} (p : Tm → Bool) (h : k < xs.length) : (xs.take (k + 1)).any p = ((xs.take k).any p || p (xs.getD k (Ty.zero Item))) := by
  rw [take_next (Ty.zero Item) h, List.any_append]
  simp

theorem apart_sat (l turns : List Int) (t : Int) (K : SV → List AObj → Prop) (hK : K (bv true) []) : Sat Try.prog 7 [fi l, fi turns, iv t] [] K := by
  refine fn_satE tab13 Try.func7 (nf7 l turns t _) ?_
  obtain ⟨w, f1, _, fw, fs, flen, fl0, wl0⟩ := hist_fold l
  have hh := hist_len l
  simp only [true_and, and_true]
  refine ⟨fun e => (by cases e), fun _ => ⟨fun _ => hK, fun hl => ⟨fun _ => hK, fun ht => ?_⟩⟩⟩
  have hl := len150 hl
  have ht := len150 ht
  have hl1 : l.length ≤ lenMax := by unfold lenMax; omega
  have ht1 : turns.length ≤ lenMax := by unfold lenMax; omega
  refine ⟨hl1, by omega, fun r hr => ⟨fun _ => ⟨fun e => (by cases e), fun _ => ?_⟩, fun e => absurd (by rw [hr]; exact f1) e⟩⟩
  rw [← hr] at f1 fs flen fl0 ⊢
  have hri : r.2.2.1.length ≤ lenMax := by unfold lenMax; omega
  have li0 : LI r.2.2.1 [] := ⟨List.Pairwise.nil, fun l hl => (by cases hl), fun l hl => (by cases hl)⟩
  refine ⟨⟨(0, []), ⟨rfl, fl0⟩, Nat.zero_le _, Nat.le_refl _, li0⟩, fun y ⟨hy1, hy2, hli⟩ => ⟨fun hlt => ?_, fun _ => ?_⟩⟩
  · have hk : y.1 < turns.length := by
      have : Int.ofNat y.1 = (y.1 : Int) := rfl
      simp only [decide_eq_true_eq] at hlt; omega
    have k1 := nextK_lt hk
    have k2 := nextK_ge' turns (nextK turns y.1)
    have k3 := nextK_ge' turns (nextK turns (nextK turns y.1))
    have k4 := nextK_ge' turns (nextK turns (nextK turns (nextK turns y.1)))
    have k5 := nextK_len (l := turns) (k := nextK turns (nextK turns (nextK turns y.1))) (nextK_len (nextK_len (nextK_len hy1)))
    refine ⟨by omega, by omega, by omega, ht1, by omega, by omega, by omega, ht1, by omega, by omega, ht1, by omega, by omega, by omega, ht1, hri, by unfold lenMax; omega, fun r4 hr4 => ?_⟩
    obtain ⟨_, _, t3⟩ := takeQ_len (r.2.2.1, y.2, r.2.2.2.2) (1 + nextV turns y.1 4) (1 + nextV turns (nextK turns y.1) 2) (nextV turns (nextK turns (nextK turns y.1)) 60) (1 + nextV turns (nextK turns (nextK turns (nextK turns y.1))) 30)
    have t4 := li_take hli r.2.2.2.2 (1 + nextV turns y.1 4) (1 + nextV turns (nextK turns y.1) 2) (nextV turns (nextK turns (nextK turns y.1)) 60) (1 + nextV turns (nextK turns (nextK turns (nextK turns y.1))) 30)
    have hr4' : r4 = takeQ (r.2.2.1, y.2, r.2.2.2.2) (1 + nextV turns y.1 4) (1 + nextV turns (nextK turns y.1) 2) (nextV turns (nextK turns (nextK turns y.1)) 60) (1 + nextV turns (nextK turns (nextK turns (nextK turns y.1))) 30) := hr4
    rw [← hr4'] at t3 t4
    have t3 : r4.2.2.1.length ≤ y.2.length + 1 := t3
    refine ⟨(nextK turns (nextK turns (nextK turns (nextK turns y.1))), r4.2.2.1), ?_, ⟨k5, by show r4.2.2.1.length ≤ nextK turns (nextK turns (nextK turns (nextK turns y.1))); omega, t4⟩, by show turns.length - nextK turns (nextK turns (nextK turns (nextK turns y.1))) < _; omega⟩
    repeat' (first | trivial | apply And.intro)
  · have hyl : y.2.length ≤ lenMax := by unfold lenMax; omega
    generalize y.2 = ls at hli hyl hy2 ⊢
    refine ⟨⟨0, rfl, by omega⟩, fun E hE => ⟨fun elt => ⟨hyl, ⟨0, rfl, Nat.zero_le _⟩, fun i hi => ?_⟩, fun _ => hK⟩⟩
    have hE2 : E < 2 := by simp only [decide_eq_true_eq] at elt; omega
    have hRasc : (ls.filter (liveL ((E : Int) + 1) t)).Pairwise fun a b => leItem a < leItem b := List.Pairwise.filter _ hli.asc
    have hRmem : ∀ x ∈ ls.filter (liveL ((E : Int) + 1) t), x ∈ ls ∧ liveL ((E : Int) + 1) t x = true := fun x hx => List.mem_filter.1 hx
    have hRlen : (ls.filter (liveL ((E : Int) + 1) t)).length ≤ 150 := by
      have := List.length_filter_le (liveL ((E : Int) + 1) t) ls
      omega
    generalize ls.filter (liveL ((E : Int) + 1) t) = R at hRasc hRmem hRlen hi ⊢
    refine ⟨fun ilt => ?_, fun ige => ⟨E + 1, by rw [wr_eq (by omega) (by omega)]; omega, by omega, by omega⟩⟩
    have hi' : i < R.length := by simp only [decide_eq_true_eq] at ilt; omega
    have hxR := getD_mem (Ty.zero Lease) hi'
    have hprev : ∀ k, k < i → leItem (R.getD k (Ty.zero Lease)) < leItem (R.getD i (Ty.zero Lease)) := by
      intro k hk
      have h1 := List.pairwise_iff_getElem.1 hRasc k i (by omega) hi' hk
      have g1 : R.getD k (Ty.zero Lease) = R[k] := by rw [List.getD_eq_getElem?_getD, List.getElem?_eq_getElem (by omega)]; rfl
      have g2 : R.getD i (Ty.zero Lease) = R[i] := by rw [List.getD_eq_getElem?_getD, List.getElem?_eq_getElem hi']; rfl
      rw [g1, g2]; exact h1
    generalize hX : R.getD i (Ty.zero Lease) = x at hxR hprev ⊢
    obtain ⟨hxl, hxlive⟩ := hRmem x hxR
    have hone := holds_one hli hxl hxlive
    obtain ⟨it, hit, eit⟩ := hli.inn x hxl
    have hwait : (r.2.2.1.any fun (y : Tm) => y.1 == x.1) = true := List.any_eq_true.2 ⟨it, hit, beq_iff_eq.2 eit⟩
    refine ⟨by omega, hi', ⟨(0, 0), ⟨rfl, rfl⟩, by omega, rfl⟩, fun z ⟨hz1, hz2⟩ => ⟨fun zlt => ?_, fun zge => ?_⟩⟩
    · have hz8 : z.1 < 8 := by simp only [decide_eq_true_eq] at zlt; omega
      have hnx := range_next (fun (j : Nat) => holdsQ ls ((j : Int) + 1) ((E : Int) + 1) x.1 t) z.1
      have hz9 : z.2 ≤ 8 := by
        have := List.length_filter_le (fun (j : Nat) => holdsQ ls ((j : Int) + 1) ((E : Int) + 1) x.1 t) (List.range z.1)
        rw [List.length_range] at this
        omega
      refine ⟨hyl, fun q => ⟨(z.1 + 1, z.2 + 1), ⟨?_, ?_⟩, ⟨by show z.1 + 1 ≤ 8; omega, ?_⟩, by show 8 - (z.1 + 1) < _; omega⟩, fun q => ⟨(z.1 + 1, z.2), ?_, ⟨by show z.1 + 1 ≤ 8; omega, ?_⟩, by show 8 - (z.1 + 1) < _; omega⟩⟩
      · rw [wr_eq (by omega) (by omega)]; rfl
      · rw [wr_eq (by omega) (by omega)]; show _ = ((z.1 + 1 : Nat) : Int) + 1; omega
      · show z.2 + 1 = _
        rw [hnx, if_pos q, hz2]
      · refine ⟨rfl, ?_⟩
        rw [wr_eq (by omega) (by omega)]; show _ = ((z.1 + 1 : Nat) : Int) + 1; omega
      · show z.2 = _
        rw [hnx, if_neg (by rw [q]; simp), hz2]
        rfl
    · have hz8 : z.1 = 8 := by simp only [decide_eq_false_iff_not] at zge; omega
      rw [hz8, hone] at hz2
      refine ⟨hri, ⟨(0, false), ⟨rfl, rfl⟩, Nat.zero_le _, rfl⟩, fun v ⟨hv1, hv2⟩ => ⟨fun vlt => ?_, fun vge => ?_⟩⟩
      · have hv' : v.1 < r.2.2.1.length := by simp only [decide_eq_true_eq] at vlt; omega
        refine ⟨by omega, hv', (v.1 + 1, (v.2 || (r.2.2.1.getD v.1 (Ty.zero Item)).1 == x.1)), ⟨rfl, by rw [wr_eq (by omega) (by omega)]; rfl⟩, ⟨by show v.1 + 1 ≤ _; omega, ?_⟩, by show 1000000 - (v.1 + 1) < _; omega⟩
        show (v.2 || _) = _
        rw [hv2]
        exact (any_next (fun y : Tm => y.1 == x.1) hv').symm
      · have hv' : v.1 = r.2.2.1.length := by simp only [decide_eq_false_iff_not] at vge; omega
        rw [hv', List.take_length] at hv2
        have hv3 : v.2 = true := hv2.trans hwait
        have hu : decide ((x.2.2.2 : Int) ≤ t) = false := by
          unfold liveL at hxlive
          rw [Bool.and_eq_true, decide_eq_true_eq] at hxlive
          exact decide_eq_false (Int.not_le.2 hxlive.2)
        have he : (x.2.2.1 != (E : Int) + 1) = false := by
          unfold liveL at hxlive
          rw [Bool.and_eq_true] at hxlive
          rw [bne, hxlive.1]; rfl
        have hw : 0 < i → wr ((i : Int) - 1) = ((i - 1 : Nat) : Int) := fun h => by rw [wr_eq (by omega) (by omega)]; omega
        have hlt : (decide ((i : Int) > 0) && decide ((R.getD (Int.toNat (wr ((i : Int) - 1))) (Ty.zero Lease)).1 ≥ x.1)) = false := by
          by_cases h0 : 0 < i
          · rw [hw h0, Int.toNat_natCast]
            have := hprev (i - 1) (by omega)
            have : decide ((R.getD (i - 1) (Ty.zero Lease)).1 ≥ x.1) = false := decide_eq_false (Int.not_le.2 this)
            rw [this, Bool.and_false]
          · have : decide ((i : Int) > 0) = false := decide_eq_false (by omega)
            rw [this, Bool.false_and]
        have hn1 : ((z.2 : Int) != 1) = false := by rw [hz2]; rfl
        simp only [hn1, hv3, hu, he, hlt, sgnB, Bool.not_true, Bool.not_false, Bool.or_false, Bool.and_true, Bool.false_eq_true, Bool.true_eq_false, false_implies, true_implies, decide_eq_true_eq]
        refine ⟨fun h0 => ?_, fun h0 => ?_, trivial, ⟨i + 1, by rw [wr_eq (by omega) (by omega)]; rfl, by omega, by omega⟩⟩
        · rw [hw (by omega)]; omega
        · rw [hw (by omega), Int.toNat_natCast]
          show i - 1 < R.length
          omega
end Go.Proofs.Ythjogeodclpafaa.AM
end

section
namespace Go.Proofs.Ythjogeodclpafaa.queueApart
open Go.ChangeShapes Go.WideShapes Go.ChangeAt Go.RowKit
open Go.Proofs.Ythjogeodclpafaa.AM
set_option linter.unusedVariables false

theorem own : ownKnob Try.prog.godebug = none := by kernel_rfl
theorem laidOut : laidOutB Try.prog = true := by kernel_rfl

set_option maxRecDepth 100000 in
theorem lifted (os : Os) (started : os.Started) (H : Type) (enc : TypeId × Value → H) :
    ReturnsInHanded {} Try.checked os 7 .any (Rows.queueApartSpec.pre6 enc Try.prog Try.f7 Rows.queueApartRow.domain false) (Rows.queueApartSpec.post enc Try.prog Try.f7 false true false false) := by
  refine returnsInHanded_of_change_sized (C := Try.checked) own started (by kernel_rfl) Try.func7
    (ChangeSpec.witness6 (enc := enc) (C := Try.checked) false ⟨#[], #[.slice none 0 0, .slice none 0 0, .int .i64 0], []⟩ 8 (by kernel_rfl) (by kernel_rfl) (by kernel_rfl) (by kernel_rfl)) ?_
  intro W base args ds gs before hval0 hW hcnd hsz0 _
  have hval : ∀ (j : Nat) t v, Try.f7.params[j]? = some t → args[j]? = some v → Value.okWide Try.prog W .any base t v := hval0
  have hW' := hW
  obtain ⟨p, q, hA0, hV, rfl, hfz, hnd⟩ := hW
  have hA : DataW.TrodAll enc Try.prog W 0 (fun _ => true) true Try.f7.params.toList args.toList ds p := hA0
  rw [Try.params7] at hA hval
  obtain ⟨v0, vs0, d0, ds0, p0, q0, hargs, rfl, rfl, h0, r0⟩ := trodAll_cons hA
  obtain ⟨v1, vs1, d1, ds1, p1, q1, rfl, rfl, rfl, h1, r1⟩ := trodAll_cons r0
  obtain ⟨v2, vs2, d2, ds2, p2, q2, rfl, rfl, rfl, h2, r2⟩ := trodAll_cons r1
  obtain ⟨rfl, rfl, rfl⟩ := trodAll_nil r2
  obtain rfl : args = #[v0, v1, v2] := by cases args; simp_all
  obtain ⟨rfl, rfl⟩ := trodVars_none hV
  have k0 := h0
  have lt0 : ∀ x ∈ p0, x.block < W.heap.size := by obtain ⟨m, hm⟩ := k0; exact DataW.trod_lt m _ _ _ hm
  obtain ⟨l0, w0, _⟩ := open_list (τ := I) 4 Try.underlying36 (by kernel_rfl) (hval 0 36 v0 rfl rfl) h0
  have k1 := h1
  have lt1 : ∀ x ∈ p1, x.block < W.heap.size := by obtain ⟨m, hm⟩ := k1; exact DataW.trod_lt m _ _ _ hm
  obtain ⟨l1, w1, _⟩ := open_list (τ := I) 4 Try.underlying36 (by kernel_rfl) (hval 1 36 v1 rfl rfl) h1
  obtain ⟨a2, rfl, rfl, rfl, w2⟩ := open_int Try.underlying3 (hval 2 3 v2 rfl rfl) h2
  clear hA0 hval0 hsz0
  refine (law_calls (P := Try.prog) (f := 7) (args := [fi l0, fi l1, iv a2]) (cargs := [_, _, _]) (W := W) (apart_sat l0 l1 a2 _ rfl) ⟨_, _, rfl, w0, _, _, rfl, w1, _, _, rfl, rfl, rfl⟩).mono fun e W' ⟨he, bel⟩ => ?_
  subst he
  exact ⟨_, rfl, _, _, _, [], _, [], hW', trodAll_mk1 (shut_bool Try.underlying4 _), (trodAll_cons_mk (Below.trod laidOut (by kernel_rfl) (of_decide_eq_true (by kernel_rfl)) k0 bel lt0) (trodAll_cons_mk (Below.trod laidOut (by kernel_rfl) (of_decide_eq_true (by kernel_rfl)) k1 bel lt1) (trodAll_cons_mk (shut_int Try.underlying3 w2) trodAll_mk0))), rfl, bel.frame _, fun h => by cases h⟩

theorem over : Rows.queueApartRow.holds Try.pinned (OpenSpec.ofChange Rows.queueApartSpec) :=
  OpenClaim.holds_of_wide 7 Try.f7 rfl rfl rfl rfl rfl rfl rfl ⟨rfl, rfl, rfl, rfl, rfl⟩ rfl rfl rfl rfl rfl (by kernel_rfl) Try.func7 (by kernel_rfl)
    (of_decide_eq_true (by kernel_rfl)) (by unfold Func.isWrapper; first | (rw [if_pos (by decide +kernel)]; kernel_rfl) | (rw [if_neg (by decide +kernel)]; exact ⟨rfl, rfl⟩))
    (fun os started H enc _ => lifted os started H enc)

theorem proved : Rows.QueueApartSaid := over
end Go.Proofs.Ythjogeodclpafaa.queueApart
namespace Go.Proofs.Ythjogeodclpafaa
/-- The row, under a short name, for the claim. -/
theorem queueApart_holds : Rows.QueueApartSaid := queueApart.proved
#print axioms queueApart_holds
end Go.Proofs.Ythjogeodclpafaa
end
