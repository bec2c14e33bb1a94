/- Small facts on lists. -/
import Derived.Test.YthjogeodclpafaaAmL
set_option linter.unusedSimpArgs false
namespace Go.Proofs.Ythjogeodclpafaa.AM
open Go

theorem take_next {α : Type} {l : List α} {x : Nat} (z : α) (h : x < l.length) : l.take (x + 1) = l.take x ++ [l.getD x z] := by
  rw [List.take_succ_eq_append_getElem h, List.getD_eq_getElem?_getD, List.getElem?_eq_getElem h]; rfl

theorem getD_mem {α : Type} {l : List α} {x : Nat} (z : α) (h : x < l.length) : l.getD x z ∈ l := by
  rw [List.getD_eq_getElem?_getD, List.getElem?_eq_getElem h]; exact List.getElem_mem h

theorem getD_get? {α : Type} {l : List α} {x : Nat} (z : α) (h : x < l.length) : l[x]? = some (l.getD x z) := by
  rw [List.getD_eq_getElem?_getD, List.getElem?_eq_getElem h]; rfl

theorem tw_succ {α : Type} {p : α → Bool} (z : α) : ∀ (l : List α) (x : Nat), x ≤ (l.takeWhile p).length → x < l.length → p (l.getD x z) = true → x + 1 ≤ (l.takeWhile p).length
  | [], x, _, h, _ => by simp at h
  | a :: l, 0, _, _, h => by
    have : p a = true := by simpa using h
    simp [List.takeWhile_cons, this]
  | a :: l, x + 1, h0, h1, h2 => by
    rw [List.takeWhile_cons] at h0 ⊢
    split at h0
    · rename_i q
      have := tw_succ z l x (by simpa using h0) (by simpa using h1) (by simpa using h2)
      simp [q]; omega
    · simp at h0

theorem tw_stop {α : Type} {p : α → Bool} (z : α) : ∀ (l : List α) (x : Nat), x ≤ (l.takeWhile p).length → (x < l.length → p (l.getD x z) = false) → x = (l.takeWhile p).length
  | [], x, h, _ => by simpa using h
  | a :: l, 0, _, h => by
    have : p a = false := by simpa using h (by simp)
    simp [List.takeWhile_cons, this]
  | a :: l, x + 1, h0, h => by
    rw [List.takeWhile_cons] at h0 ⊢
    split at h0
    · rename_i q
      have := tw_stop z l x (by simpa using h0) (fun hx => by simpa using h (by simpa using hx))
      simp [q, ← this]
    · simp at h0

theorem tw_le {α : Type} (p : α → Bool) (l : List α) : (l.takeWhile p).length ≤ l.length := List.Sublist.length_le (List.takeWhile_sublist p)

theorem fi_succ {α : Type} {p : α → Bool} (z : α) : ∀ (l : List α) (x : Nat), x ≤ l.findIdx p → x < l.length → p (l.getD x z) = false → x + 1 ≤ l.findIdx p
  | [], x, _, h, _ => by simp at h
  | a :: l, 0, _, _, h => by
    have : p a = false := by simpa using h
    simp [List.findIdx_cons, this]
  | a :: l, x + 1, h0, h1, h2 => by
    rw [List.findIdx_cons] at h0 ⊢
    cases q : p a with
    | true => rw [q] at h0; simp at h0
    | false =>
      rw [q] at h0
      have := fi_succ z l x (by simpa using h0) (by simpa using h1) (by simpa using h2)
      simp; omega

theorem fi_hit {α : Type} {p : α → Bool} (z : α) : ∀ (l : List α) (x : Nat), x ≤ l.findIdx p → x < l.length → p (l.getD x z) = true → l.findIdx p = x ∧ l.any p = true
  | [], x, _, h, _ => by simp at h
  | a :: l, 0, _, _, h => by
    have : p a = true := by simpa using h
    simp [List.findIdx_cons, this]
  | a :: l, x + 1, h0, h1, h2 => by
    rw [List.findIdx_cons] at h0 ⊢
    cases q : p a with
    | true => rw [q] at h0; simp at h0
    | false =>
      rw [q] at h0
      have := fi_hit z l x (by simpa using h0) (by simpa using h1) (by simpa using h2)
      simp [this, q]

theorem fi_end {α : Type} {p : α → Bool} : ∀ (l : List α), l.length ≤ l.findIdx p → l.any p = false
  | [], _ => rfl
  | a :: l, h => by
    rw [List.findIdx_cons] at h
    cases q : p a with
    | true => rw [q] at h; simp at h
    | false =>
      rw [q] at h
      have := fi_end l (by simpa using h)
      simp [this, q]

/-- The place of the first element for which it holds, or -1. -/
def idxE {α : Type} (p : α → Bool) (ws : List α) : Int := if ws.any p then (ws.findIdx p : Nat) else -1

theorem idxE_hit {α : Type} {p : α → Bool} {ws : List α} {x : Nat} (z : α) (h1 : x ≤ ws.findIdx p) (h2 : x < ws.length) (h3 : p (ws.getD x z) = true) : idxE p ws = x := by
  obtain ⟨a, b⟩ := fi_hit z ws x h1 h2 h3
  unfold idxE; rw [b, a]; rfl

theorem idxE_none {α : Type} {p : α → Bool} {ws : List α} (h : ws.length ≤ ws.findIdx p) : idxE p ws = -1 := by
  unfold idxE; rw [fi_end ws h]; rfl

theorem take_spl {α : Type} (xs : List α) (i : Nat) (zs : List α) (h : i ≤ xs.length) : (spl xs i zs).take i = xs.take i := by
  unfold spl
  rw [List.take_append_of_le_length (by simp; omega), List.take_take, Nat.min_self]

/-- One element is taken out. -/
theorem del_spl {α : Type} {xs js R : List α} {i : Nat} (h : i < xs.length) :
    (spl (spl (xs ++ js) i (List.take (xs.length - (i + 1)) (List.drop (i + 1) xs))) (i + (List.take (xs.length - (i + 1)) (List.drop (i + 1) xs)).length) R).take (i + (List.take (xs.length - (i + 1)) (List.drop (i + 1) xs)).length) = xs.take i ++ xs.drop (i + 1) := by
  have hd : List.take (xs.length - (i + 1)) (List.drop (i + 1) xs) = List.drop (i + 1) xs := List.take_of_length_le (by rw [List.length_drop]; omega)
  rw [hd]
  have hl : (List.drop (i + 1) xs).length = xs.length - (i + 1) := List.length_drop
  rw [take_spl _ _ _ (by rw [len_spl, List.length_append]; omega)]
  unfold spl
  have h1 : (List.take i (xs ++ js)).length = i := by rw [List.length_take, List.length_append]; omega
  have h2 : List.take i (xs ++ js) = List.take i xs := List.take_append_of_le_length (by omega)
  rw [List.take_append, h1, List.take_of_length_le (by omega), h2, Nat.add_sub_cancel_left, List.take_append_of_le_length (Nat.le_refl _), List.take_length]

theorem eqmp {p q : Prop} (h : p) (e : p = q) : q := Eq.mp e h
end Go.Proofs.Ythjogeodclpafaa.AM
