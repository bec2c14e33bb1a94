/- QueueRoom: how many items may wait. -/
import Derived.Test.YthjogeodclpafaaQueueN7
import Derived.Test.YthjogeodclpafaaQueueN6
import Derived.Test.YthjogeodclpafaaQueueP6
set_option linter.unusedVariables false
set_option linter.unusedSimpArgs false
set_option maxRecDepth 100000
namespace Go.Proofs.Ythjogeodclpafaa.AM
open Go Go.Proofs.Ythjogeodclpafaa

theorem tabd : TabOK Try.prog (look Ld) := look_cons tab8 (fun _ _ _ h => h.elim)

theorem sat10 : ∀ vs H K, S10.cps vs H K → Sat Try.prog 10 vs H K := by
  intro vs H K h
  unfold S10 at h
  dsimp only at h
  split at h
  · refine fn_sat (N := {}) hm tabd Try.func10 (Eq.mp (nf10 _) ?_)
    unfold lenMax
    exact ⟨by omega, by omega, by omega, by omega, by omega, by omega, by omega, by omega, by omega, by omega, by omega, by omega, h⟩
  · exact h.elim

theorem sat11 : ∀ vs H K, S11.cps vs H K → Sat Try.prog 11 vs H K := by
  intro vs H K h
  unfold S11 at h
  dsimp only at h
  split at h
  · rename_i a b
    obtain ⟨h1, h2, hK⟩ := h
    refine fn_sat (N := {}) hm (look_nil _) Try.func11 ?_
    rw [← nf11]
    have e1 := Int.tmod_add_mul_tdiv a b
    have hb : b ≠ 0 := by omega
    have key : a % b = if a.tmod b < 0 then a.tmod b + b else a.tmod b := by
      rw [Int.tmod_eq_emod]
      have h3 := Int.emod_nonneg a hb
      have h4 := Int.emod_lt_of_pos a h1
      split <;> split <;> omega
    refine ⟨hb, fun h3 => ?_, fun h3 => ?_⟩
    · simp only [decide_eq_true_eq] at h3
      rw [if_pos h3] at key
      have h4 := Int.emod_nonneg a hb
      have h5 := Int.emod_lt_of_pos a h1
      rw [show wr (Int.tmod a b + b) = a % b by rw [← key]; exact wr_eq (by omega) (by omega)]
      exact hK
    · simp only [decide_eq_false_iff_not] at h3
      rw [if_neg h3] at key
      rw [← key]; exact hK
  · exact h.elim

theorem sat13n : ∀ vs H K, S13n.cps vs H K → Sat Try.prog 13 vs H K := by
  intro vs H K h
  unfold S13n at h
  dsimp only at h
  split at h
  · exact sat13 _ _ _ ⟨h.1, h.2.1, h.2.2 _ rfl⟩
  · exact h.elim
theorem sat23n : ∀ vs H K, S23n.cps vs H K → Sat Try.prog 23 vs H K := by
  intro vs H K h
  unfold S23n at h
  dsimp only at h
  split at h
  · exact sat23 _ _ _ ⟨h.1, h.2.1, h.2.2 _ rfl⟩
  · exact h.elim
theorem tab9 : TabOK Try.prog (look L9) := look_cons (look_cons (look_cons (look_cons tab8 sat23n) sat13n) sat11) sat10

theorem empty_nil : emptyB ⟨#[]⟩ = true := beq_self_eq_true _

theorem valid_push {n : Int} {v : ByteArray} (h1 : 1 ≤ n) (h2 : n ≤ 4096) (hv : v.size ≤ 64) : validC (1, n, 3, 1, n, 0, ⟨#[]⟩, v) = true := by
  have e : valueB v = true := decide_eq_true (by omega)
  have d1 : decide (n < 1) = false := decide_eq_false (by omega)
  have d2 : decide (n > 4096) = false := decide_eq_false (by omega)
  have d3 : decide (n > 1048576) = false := decide_eq_false (by omega)
  simp [validC, e, d1, d2, d3, empty_nil]

theorem valid_done {n m : Int} (h1 : 1 ≤ n) (h2 : n ≤ 4096) (h3 : 1 ≤ m) (h4 : m < n) : validC (1, n, 4, 1, n, m, ⟨#[]⟩, ⟨#[]⟩) = true := by
  have d1 : decide (n < 1) = false := decide_eq_false (by omega)
  have d2 : decide (n > 4096) = false := decide_eq_false (by omega)
  have d3 : decide (n > 1048576) = false := decide_eq_false (by omega)
  simp [validC, d1, d2, d3, empty_nil, h3, h4]

theorem push_ok {q : Q} {n : Int} {v : ByteArray} (h1 : 1 ≤ n) (h2 : n ≤ 4096) (hv : v.size ≤ 64) (hp : q.2.2 < n) (hl : q.1.length < 16) : applyQ q (1, n, 3, 1, n, 0, ⟨#[]⟩, v) = (0, (q.1 ++ [(n, v)], q.2.1, n)) := by
  have hc : checkQ q (1, n, 3, 1, n, 0, ⟨#[]⟩, v) = 0 := by
    unfold checkQ
    rw [if_neg (by rw [valid_push h1 h2 hv]; simp), if_neg (by simp; omega), if_neg (by simp; omega), if_neg (by simp)]
  unfold applyQ
  rw [if_neg (by rw [hc]; simp), if_pos rfl]

theorem push_full {q : Q} {n : Int} {v : ByteArray} (h1 : 1 ≤ n) (h2 : n ≤ 4096) (hv : v.size ≤ 64) (hp : q.2.2 < n) (hl : 16 ≤ q.1.length) : applyQ q (1, n, 3, 1, n, 0, ⟨#[]⟩, v) = (33, q) := by
  have hc : checkQ q (1, n, 3, 1, n, 0, ⟨#[]⟩, v) = 33 := by
    unfold checkQ
    rw [if_neg (by rw [valid_push h1 h2 hv]; simp), if_neg (by simp; omega), if_pos (by simp; omega)]
  unfold applyQ
  rw [if_pos (by rw [hc]; simp), hc]

theorem push_gap {q : Q} {n : Int} {v : ByteArray} (h1 : 1 ≤ n) (h2 : n ≤ 4096) (hv : v.size ≤ 64) (hp : n ≤ q.2.2) : applyQ q (1, n, 3, 1, n, 0, ⟨#[]⟩, v) = (36, q) := by
  have hc : checkQ q (1, n, 3, 1, n, 0, ⟨#[]⟩, v) = 36 := by
    unfold checkQ
    rw [if_neg (by rw [valid_push h1 h2 hv]; simp), if_pos ⟨rfl, hp⟩]
  unfold applyQ
  rw [if_pos (by rw [hc]; simp), hc]

theorem done_ok {q : Q} {n m : Int} (h1 : 1 ≤ n) (h2 : n ≤ 4096) (h3 : 1 ≤ m) (h4 : m < n) (ha : 0 ≤ atQ q.1 m) : applyQ q (1, n, 4, 1, n, m, ⟨#[]⟩, ⟨#[]⟩) = (0, (dropAt q.1 (atQ q.1 m), dropAt q.2.1 (leaseQ q.2.1 m), q.2.2)) := by
  have hc : checkQ q (1, n, 4, 1, n, m, ⟨#[]⟩, ⟨#[]⟩) = 0 := by
    unfold checkQ
    rw [if_neg (by rw [valid_done h1 h2 h3 h4]; simp), if_neg (by simp), if_neg (by simp), if_neg (by simp; omega)]
  unfold applyQ
  rw [if_neg (by rw [hc]; simp), if_neg (by simp), if_pos rfl]

theorem done_none {q : Q} {n m : Int} (h1 : 1 ≤ n) (h2 : n ≤ 4096) (h3 : 1 ≤ m) (h4 : m < n) (ha : atQ q.1 m < 0) : applyQ q (1, n, 4, 1, n, m, ⟨#[]⟩, ⟨#[]⟩) = (34, q) := by
  have hc : checkQ q (1, n, 4, 1, n, m, ⟨#[]⟩, ⟨#[]⟩) = 34 := by
    unfold checkQ
    rw [if_neg (by rw [valid_done h1 h2 h3 h4]; simp), if_neg (by simp), if_neg (by simp), if_pos ⟨rfl, ha⟩]
  unfold applyQ
  rw [if_pos (by rw [hc]; simp), hc]

theorem room_succ (m : Int) (v : ByteArray) (k : Nat) : roomX m v k ++ [(m + ((k : Int) + 1), v)] = roomX m v (k + 1) := by
  unfold roomX
  rw [List.range_succ, List.map_append]; rfl

theorem room_len (m : Int) (v : ByteArray) (k : Nat) : (roomX m v k).length = k := by simp [roomX]

theorem room16 (m : Int) (v : ByteArray) : roomX m v 16 = [(m + 1, v), (m + 2, v), (m + 3, v), (m + 4, v), (m + 5, v), (m + 6, v), (m + 7, v), (m + 8, v), (m + 9, v), (m + 10, v), (m + 11, v), (m + 12, v), (m + 13, v), (m + 14, v), (m + 15, v), (m + 16, v)] := by
  simp [roomX, List.range, List.range.loop]

theorem room_at (m : Int) (v : ByteArray) : atQ (roomX m v 16) (m + 2) = 1 := by
  rw [room16]
  have e1 : (m + 1 == m + 2) = false := by rw [beq_eq_false_iff_ne]; omega
  simp [atQ, idxE, List.findIdx_cons, e1]

theorem room_gone (m : Int) (v : ByteArray) : atQ (dropAt (roomX m v 16) 1) (m + 2) = -1 := by
  rw [room16]
  have ne : ∀ k : Int, k ≠ 2 → (m + k == m + 2) = false := fun k hk => by rw [beq_eq_false_iff_ne]; omega
  simp [atQ, idxE, dropAt, ne]

theorem room_sat (s : Int) (v : ByteArray) (K : SV → List AObj → Prop) (hK : K (bv true) []) : Sat Try.prog 3 [iv s, sv v] [] K := by
  refine fn_sat (N := N3 (s % 1000) v) hm tab9 Try.func3 (Eq.mp (nf3 s v K) ?_)
  have h1 := Int.emod_nonneg s (b := 1000) (by omega)
  have h2 := Int.emod_lt_of_pos s (b := 1000) (by omega)
  generalize s % 1000 = m at h1 h2 ⊢
  refine ⟨fun h => (by cases h), fun _ => ⟨fun _ => hK, fun hv => ⟨by omega, by omega, ⟨0, ⟨rfl, rfl, rfl, rfl, rfl, rfl, trivial⟩, by omega⟩, fun x hx => ⟨fun hlt => ?_, fun hge => ?_⟩⟩⟩⟩
  · have hv : v.size ≤ 64 := by simp only [decide_eq_false_iff_not] at hv; omega
    simp only [decide_eq_true_eq] at hlt
    have e1 : wr (m + ((x : Int) + 1)) = m + ((x : Int) + 1) := wr_eq (by omega) (by omega)
    have e2 : wr ((x : Int) + 1 + 1) = ((x + 1 : Nat) : Int) + 1 := by rw [wr_eq (by omega) (by omega)]; omega
    rw [e1, e2]
    refine ⟨by rw [room_len]; unfold lenMax; omega, by omega, fun r hr => ?_⟩
    have hp : roomP m x < m + ((x : Int) + 1) := by unfold roomP; split <;> omega
    rw [push_ok (q := (roomX m v x, [], roomP m x)) (n := m + ((x : Int) + 1)) (by omega) (by omega) hv hp (by show (roomX m v x).length < 16; rw [room_len]; omega)] at hr
    subst hr
    refine ⟨fun h => (by simp at h), fun _ => ⟨x + 1, ⟨rfl, rfl, rfl, ?_, room_succ m v x, rfl, trivial⟩, by omega, by omega⟩⟩
    unfold roomP
    rw [if_neg (Nat.succ_ne_zero x)]
    show m + ((x : Int) + 1) = _
    omega
  · have hv : v.size ≤ 64 := by simp only [decide_eq_false_iff_not] at hv; omega
    simp only [decide_eq_false_iff_not] at hge
    have hx16 : x = 16 := by omega
    subst hx16
    have e0 : wr (m + 16) = m + 16 := wr_eq (by omega) (by omega)
    rw [e0]
    have e1 : wr (m + 16 + 1) = m + 17 := by rw [wr_eq (by omega) (by omega)]; omega
    have e2 : wr (m + 16 + 2) = m + 18 := by rw [wr_eq (by omega) (by omega)]; omega
    have e3 : wr (m + 16 + 3) = m + 19 := by rw [wr_eq (by omega) (by omega)]; omega
    have e4 : wr (m + 2) = m + 2 := wr_eq (by omega) (by omega)
    rw [e1, e2, e3, e4]
    have hP : roomP m 16 = m + 16 := rfl
    rw [hP]
    have hlen := room_len m v 16
    have h16 : (roomX m v 16).length ≤ lenMax := by rw [hlen]; unfold lenMax; omega
    refine ⟨h16, Nat.zero_le _, fun r hr => ?_⟩
    rw [push_full (q := (roomX m v 16, [], m + 16)) (n := m + 17) (by omega) (by omega) hv (by show m + 16 < m + 17; omega) (by show 16 ≤ (roomX m v 16).length; omega)] at hr
    subst hr
    refine ⟨fun _ => ⟨h16, Nat.zero_le _, fun r hr => ?_⟩, fun h => (by simp at h)⟩
    rw [push_gap (q := (roomX m v 16, [], m + 16)) (n := m + 16) (by omega) (by omega) hv (by show m + 16 ≤ m + 16; omega)] at hr
    subst hr
    refine ⟨fun _ => ⟨h16, Nat.zero_le _, fun r hr => ?_⟩, fun h => (by simp at h)⟩
    rw [done_ok (q := (roomX m v 16, [], m + 16)) (n := m + 17) (m := m + 2) (by omega) (by omega) (by omega) (by omega) (by show 0 ≤ atQ (roomX m v 16) (m + 2); rw [room_at]; omega)] at hr
    have hr2 : r = (0, (dropAt (roomX m v 16) 1, [], m + 16)) := by rw [hr]; show (0, dropAt (roomX m v 16) (atQ (roomX m v 16) (m + 2)), _, _) = _; rw [room_at]; rfl
    clear hr
    subst hr2
    have hl15 : (dropAt (roomX m v 16) 1).length = 15 := by rw [room16]; rfl
    have h15 : (dropAt (roomX m v 16) 1).length ≤ lenMax := by rw [hl15]; unfold lenMax; omega
    refine ⟨fun _ => ⟨h15, Nat.zero_le _, fun r hr => ?_⟩, fun h => (by simp at h)⟩
    rw [done_none (q := (dropAt (roomX m v 16) 1, [], m + 16)) (n := m + 18) (m := m + 2) (by omega) (by omega) (by omega) (by omega) (by show atQ (dropAt (roomX m v 16) 1) (m + 2) < 0; rw [room_gone]; omega)] at hr
    subst hr
    refine ⟨fun _ => ⟨h15, Nat.zero_le _, fun r hr => ?_⟩, fun h => (by simp at h)⟩
    rw [push_ok (q := (dropAt (roomX m v 16) 1, [], m + 16)) (n := m + 19) (by omega) (by omega) hv (by show m + 16 < m + 19; omega) (by show (dropAt (roomX m v 16) 1).length < 16; omega)] at hr
    subst hr
    have hfin : (dropAt (roomX m v 16) 1 ++ [(m + 19, v)]).length = 16 := by rw [List.length_append, hl15]; rfl
    refine ⟨fun _ => ⟨by show (dropAt (roomX m v 16) 1 ++ [(m + 19, v)]).length ≤ lenMax; rw [hfin]; unfold lenMax; omega, ?_⟩, fun h => (by simp at h)⟩
    have : ((((dropAt (roomX m v 16) 1 ++ [(m + 19, v)]).length : Nat) : Int) == (16 : Int)) = true := by rw [hfin]; rfl
    show K (.b (.bool ((((dropAt (roomX m v 16) 1 ++ [(m + 19, v)]).length : Nat) : Int) == (16 : Int)))) []
    rw [this]; exact hK
end Go.Proofs.Ythjogeodclpafaa.AM
