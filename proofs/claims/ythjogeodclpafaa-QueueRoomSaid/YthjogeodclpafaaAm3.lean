/- The pieces of abstract values read as their cells do: parsing, lists behind slices, cells at an address. -/
import Derived.Test.YthjogeodclpafaaAm2
set_option linter.unusedVariables false
set_option linter.unusedSimpArgs false
namespace Go.Proofs.Ythjogeodclpafaa.AM
open Go

section
variable {β : List Value} {Z : Nat → Prop} {w : World}

theorem EncAll.length {α : Type} {R : α → List Value → Prop} {k : Nat} (h : ∀ x cs, R x cs → cs.length = k) : ∀ {xs : List α} {cs : List Value}, EncAll R xs cs → cs.length = xs.length * k
  | [], _, e => by simp [EncAll] at e; simp [e]
  | x :: xs, _, ⟨c1, c2, e, h1, h2⟩ => by
    have := EncAll.length h h2
    simp only [e, List.length_append, h x c1 h1, this, List.length_cons, Nat.add_mul]; omega

theorem Ty.Enc.length : ∀ (τ : Ty) {x : τ.D} {cs : List Value}, τ.Enc Z w x cs → cs.length = τ.wd
  | .int _, _, _, e => by simp [Ty.Enc] at e; simp [e, Ty.wd]
  | .bool, _, _, e => by simp [Ty.Enc] at e; simp [e, Ty.wd]
  | .str, _, _, e => by simp [Ty.Enc] at e; simp [e, Ty.wd]
  | .pair a b, _, _, ⟨c1, c2, e, h1, h2⟩ => by simp [e, Ty.wd, Ty.Enc.length a h1, Ty.Enc.length b h2]
  | .sl _ a, _, _, ⟨v, e, _⟩ => by simp [e, Ty.wd]
  | .arr n a, _, _, ⟨e, h⟩ => by rw [EncAll.length (fun _ _ => Ty.Enc.length a) h, e]; rfl

theorem BV.conc.length : ∀ {v : BV} {cs : List Value}, v.conc β Z w cs → cs.length = v.wd
  | .any, _, ⟨_, e, _⟩ => by simp [e, BV.wd]
  | .int _ _, _, e => by simp [BV.conc] at e; simp [e, BV.wd]
  | .bool _, _, e => by simp [BV.conc] at e; simp [e, BV.wd]
  | .lit _, _, e => by simp [BV.conc] at e; simp [e, BV.wd]
  | .str _, _, e => by simp [BV.conc] at e; simp [e, BV.wd]
  | .nilp, _, e => by simp [BV.conc] at e; simp [e, BV.wd]
  | .nils, _, e => by simp [BV.conc] at e; simp [e, BV.wd]
  | .nilm, _, e => by simp [BV.conc] at e; simp [e, BV.wd]
  | .nilf, _, e => by simp [BV.conc] at e; simp [e, BV.wd]
  | .ptr _ _, _, ⟨b, h, e⟩ => by simp [e, BV.wd]
  | .eptr _ _ _ _, _, ⟨b, m, c, h, e⟩ => by simp [e, BV.wd]
  | .fptr _ _ _, _, ⟨b, o, es, e, _⟩ => by simp [e, BV.wd]
  | .aptr _ _ _ _ _ _, _, ⟨b, h, e⟩ => by simp [e, BV.wd]
  | .hd _, _, ⟨A, m, c, h, e⟩ => by simp [e, BV.wd]
  | .sub _ _ _ _, _, ⟨A, m, c, A', c', h, e, _⟩ => by simp [e, BV.wd]
  | .fsl _ _ _, _, ⟨v, e, h⟩ => by simp [e, BV.wd]
  | .map _, _, ⟨b, h, e⟩ => by simp [e, BV.wd]
  | .fn _ _, _, ⟨vs, e, h⟩ => by simp [e, BV.wd]
  | .arr m τ xs, _, ⟨e, h⟩ => by rw [EncAll.length (fun _ _ => Ty.Enc.length τ) h, e]; rfl
  | .nz _ _, _, ⟨b, e, _⟩ => by simp [e, BV.wd]
  | .pre _ _, _, ⟨A, m, c, h, e, _⟩ => by simp [e, BV.wd]
  | .win _ _ _ _, _, ⟨A, m, c, A', c', h, e, _⟩ => by simp [e, BV.wd]
  | .prec _ _, _, ⟨A, m, c, h, e, _⟩ => by simp [e, BV.wd]

theorem ConcL.length : ∀ {cs : List BV} {vs : List Value}, ConcL β Z w cs vs → vs.length = widths cs
  | [], _, e => by simp [ConcL] at e; simp [e, widths]
  | _ :: _, _, ⟨v1, v2, e, h1, h2⟩ => by simp [e, widths, h1.length, ConcL.length h2]

theorem ConcL.app {β : List Value} {Z : Nat → Prop} {w : World} : ∀ {as bs : List BV} {us vs : List Value}, ConcL β Z w as us → ConcL β Z w bs vs → ConcL β Z w (as ++ bs) (us ++ vs)
  | [], _, _, _, e, h => by simp [ConcL] at e; simpa [e] using h
  | _ :: _, _, _, _, ⟨v1, v2, e, h1, h2⟩, h => ⟨v1, v2 ++ _, by rw [e, List.append_assoc], h1, ConcL.app h2 h⟩

theorem ConcL.split : ∀ {as bs : List BV} {vs : List Value}, ConcL β Z w (as ++ bs) vs → ∃ us us', vs = us ++ us' ∧ ConcL β Z w as us ∧ ConcL β Z w bs us'
  | [], _, vs, h => ⟨[], vs, rfl, rfl, h⟩
  | _ :: _, _, _, ⟨v1, v2, e, h1, h2⟩ => by
    obtain ⟨us, us', e', ha, hb⟩ := ConcL.split h2
    exact ⟨v1 ++ us, us', by rw [e, e', List.append_assoc], ⟨v1, us, rfl, h1, ha⟩, hb⟩

theorem dropW_conc : ∀ {cs : List BV} {k : Nat} {r : List BV} {vs : List Value}, dropW k cs = some r → ConcL β Z w cs vs → ∃ us us', vs = us ++ us' ∧ us.length = k ∧ ConcL β Z w r us'
  | cs, 0, r, vs, h, hc => by simp [dropW] at h; exact ⟨[], vs, rfl, rfl, h ▸ hc⟩
  | [], k + 1, r, vs, h, hc => by simp [dropW] at h
  | c :: cs, k + 1, r, vs, h, ⟨v1, v2, e, h1, h2⟩ => by
    simp only [dropW] at h
    split at h
    · rename_i hb
      have hle := Nat.le_of_ble_eq_true hb
      obtain ⟨us, us', e', hl, hr⟩ := dropW_conc h h2
      exact ⟨v1 ++ us, us', by rw [e, e', List.append_assoc], by rw [List.length_append, h1.length, hl]; omega, hr⟩
    · cases h

theorem takeW_conc : ∀ {cs : List BV} {k : Nat} {r : List BV} {vs : List Value}, takeW k cs = some r → ConcL β Z w cs vs → ∃ us us', vs = us ++ us' ∧ us.length = k ∧ ConcL β Z w r us
  | cs, 0, r, vs, h, hc => by simp [takeW] at h; exact ⟨[], vs, rfl, rfl, by rw [h]; rfl⟩
  | [], k + 1, r, vs, h, hc => by simp [takeW] at h
  | c :: cs, k + 1, r, vs, h, ⟨v1, v2, e, h1, h2⟩ => by
    simp only [takeW] at h
    split at h
    · rename_i hb
      have hle := Nat.le_of_ble_eq_true hb
      split at h
      · rename_i r' hr'
        obtain ⟨us, us', e', hl, hr⟩ := takeW_conc hr' h2
        cases h
        exact ⟨v1 ++ us, us', by rw [e, e', List.append_assoc], by rw [List.length_append, h1.length, hl]; omega, v1, us, rfl, h1, hr⟩
      · cases h
    · cases h

theorem sliceW_conc {off n : Nat} {cs r : List BV} {vs : List Value} (h : sliceW off n cs = some r) (hc : ConcL β Z w cs vs) :
    ∃ us, us.length = n ∧ ConcL β Z w r us ∧ us = vs.extract off (off + n) ∧ off + n ≤ vs.length ∧ ∀ j u, us[j]? = some u → vs[off + j]? = some u := by
  unfold sliceW at h
  split at h
  · rename_i r' hr'
    obtain ⟨a, b, e, hl, hb⟩ := dropW_conc hr' hc
    obtain ⟨us, us', e', hl', hr⟩ := takeW_conc h hb
    subst e e' hl hl'
    refine ⟨us, rfl, hr, ?_, by simp, fun j u hj => ?_⟩
    · rw [List.extract_eq_take_drop]; simp
    · rw [List.getElem?_append_right (by omega), Nat.add_sub_cancel_left, List.getElem?_append_left (List.getElem?_eq_some_iff.1 hj).1]; exact hj
  · cases h

theorem enc_conc : ∀ (τ : Ty) {x : τ.D} {cs : List Value}, τ.Enc Z w x cs → ConcL β Z w (τ.enc x) cs
  | .int _, _, _, e => ⟨_, [], by simp, e, rfl⟩
  | .bool, _, _, e => ⟨_, [], by simp, e, rfl⟩
  | .str, _, _, e => ⟨_, [], by simp, e, rfl⟩
  | .pair a b, _, _, ⟨c1, c2, e, h1, h2⟩ => by rw [e]; exact ConcL.app (enc_conc a h1) (enc_conc b h2)
  | .sl _ a, _, _, h => ⟨_, [], by simp, h, rfl⟩
  | .arr n a, _, _, h => ⟨_, [], by simp, h, rfl⟩

theorem enc_wd : ∀ (τ : Ty) (x : τ.D), widths (τ.enc x) = τ.wd
  | .int _, _ => rfl
  | .bool, _ => rfl
  | .str, _ => rfl
  | .pair a b, x => by
    have h : ∀ (l m : List BV), widths (l ++ m) = widths l + widths m := by
      intro l m; induction l with
      | nil => simp [widths]
      | cons c l ih => simp [widths, ih, Nat.add_assoc]
    simp [Ty.enc, h, enc_wd a, enc_wd b, Ty.wd]
  | .sl _ _, _ => rfl
  | .arr _ _, _ => rfl

theorem castL_enc {a b : Ty} (h : a = b) (xs : List a.D) (cs : List Value) : EncAll (a.Enc Z w) xs cs ↔ EncAll (b.Enc Z w) (castL h xs) cs := by subst h; exact Iff.rfl
theorem castL_length {a b : Ty} (h : a = b) (xs : List a.D) : (castL h xs).length = xs.length := by subst h; rfl

theorem parseMany_conc {α : Type} {f : List BV → Option (α × List BV)} {R : α → List Value → Prop}
    (hf : ∀ cs x r vs, f cs = some (x, r) → ConcL β Z w cs vs → ∃ v1 v2, vs = v1 ++ v2 ∧ R x v1 ∧ ConcL β Z w r v2) :
    ∀ (n : Nat) {cs : List BV} {xs : List α} {r : List BV} {vs : List Value}, parseMany f n cs = some (xs, r) → ConcL β Z w cs vs →
      ∃ v1 v2, vs = v1 ++ v2 ∧ xs.length = n ∧ EncAll R xs v1 ∧ ConcL β Z w r v2
  | 0, cs, xs, r, vs, h, hc => by simp [parseMany] at h; obtain ⟨rfl, rfl⟩ := h; exact ⟨[], vs, rfl, rfl, rfl, hc⟩
  | n + 1, cs, xs, r, vs, h, hc => by
    simp only [parseMany] at h
    split at h
    · rename_i x r' hx
      split at h
      · rename_i xs' r'' hxs
        cases h
        obtain ⟨v1, v2, e, h1, h2⟩ := hf _ _ _ _ hx hc
        obtain ⟨u1, u2, e', hl, h3, h4⟩ := parseMany_conc hf n hxs h2
        exact ⟨v1 ++ u1, u2, by rw [e, e', List.append_assoc], by simp [hl], ⟨v1, u1, rfl, h1, h3⟩, h4⟩
      · cases h
    · cases h

theorem parse_conc : ∀ (τ : Ty) (cs : List BV) (x : τ.D) (r : List BV) (vs : List Value), τ.parse cs = some (x, r) → ConcL β Z w cs vs →
    ∃ v1 v2, vs = v1 ++ v2 ∧ τ.Enc Z w x v1 ∧ ConcL β Z w r v2
  | .int k, cs, x, r, vs, h, hc => by
    simp only [Ty.parse] at h
    split at h
    · split at h
      · rename_i he _
        subst he
        cases h
        obtain ⟨v1, v2, e, h1, h2⟩ := hc
        exact ⟨v1, v2, e, h1, h2⟩
      · cases h
    · cases h
  | .bool, cs, x, r, vs, h, hc => by
    simp only [Ty.parse] at h
    split at h
    · cases h
      obtain ⟨v1, v2, e, h1, h2⟩ := hc
      exact ⟨v1, v2, e, h1, h2⟩
    · cases h
      obtain ⟨v1, v2, e, h1, h2⟩ := hc
      exact ⟨v1, v2, e, h1, h2⟩
    · cases h
  | .str, cs, x, r, vs, h, hc => by
    simp only [Ty.parse] at h
    split at h
    · cases h
      obtain ⟨v1, v2, e, h1, h2⟩ := hc
      exact ⟨v1, v2, e, h1, h2⟩
    · cases h
  | .pair a b, cs, x, r, vs, h, hc => by
    simp only [Ty.parse] at h
    split at h
    · rename_i x1 r1 hx
      split at h
      · rename_i y r2 hy
        cases h
        obtain ⟨v1, v2, e, h1, h2⟩ := parse_conc a _ _ _ _ hx hc
        obtain ⟨u1, u2, e', h3, h4⟩ := parse_conc b _ _ _ _ hy h2
        exact ⟨v1 ++ u1, u2, by rw [e, e', List.append_assoc], ⟨v1, u1, rfl, h1, h3⟩, h4⟩
      · cases h
    · cases h
  | .sl e0 a, cs, x, r, vs, h, hc => by
    simp only [Ty.parse] at h
    split at h
    · split at h
      · rename_i q _
        subst q
        cases h
        obtain ⟨v1, v2, e, h1, h2⟩ := hc
        exact ⟨v1, v2, e, h1, h2⟩
      · cases h
    · cases h
      obtain ⟨v1, v2, e, h1, h2⟩ := hc
      refine ⟨v1, v2, e, ⟨_, h1, ?_⟩, h2⟩
      exact ⟨none, 0, [], rfl, Nat.le_refl _, by unfold maxLen; omega, rfl, fun hn => absurd rfl hn⟩
    · cases h
  | .arr n a, cs, x, r, vs, h, hc => by
    simp only [Ty.parse] at h
    split at h
    · split at h
      · rename_i q _
        split at h
        · rename_i hm
          have hm := Nat.eq_of_beq_eq_true hm
          subst q hm
          cases h
          obtain ⟨v1, v2, e, h1, h2⟩ := hc
          exact ⟨v1, v2, e, h1, h2⟩
        · cases h
      · cases h
    · obtain ⟨v1, v2, e, hl, h1, h2⟩ := parseMany_conc (R := a.Enc Z w) (fun cs x r vs => parse_conc a cs x r vs) n h hc
      exact ⟨v1, v2, e, ⟨hl, h1⟩, h2⟩

theorem dec_conc {τ : Ty} {cs : List BV} {x : τ.D} {vs : List Value} (h : τ.dec cs = some x) (hc : ConcL β Z w cs vs) : τ.Enc Z w x vs := by
  unfold Ty.dec at h
  split at h
  · rename_i x' hx
    cases h
    obtain ⟨v1, v2, e, h1, h2⟩ := parse_conc τ _ _ _ _ hx hc
    simp [ConcL] at h2
    simpa [e, h2] using h1
  · cases h

/-! ### Lists behind slices -/
/-- A slice value that reads, in this world, as the list. -/
def ReadsL (w : World) (R : List Value → Prop) (n : Nat) (x : Value) : Prop :=
  ∃ A c cs, x = .slice A n c ∧ n ≤ c ∧ c ≤ maxLen ∧ R cs ∧ (n ≠ 0 → ∃ ad, A = some ad ∧ ad.spot = none ∧ ∀ j u, cs[j]? = some u → w.cell? (ad.add j) = some u)

theorem EncAll.drop {α : Type} {R : α → List Value → Prop} {k : Nat} (hR : ∀ x cs, R x cs → cs.length = k) : ∀ (m : Nat) {xs : List α} {cs : List Value}, EncAll R xs cs → EncAll R (xs.drop m) (cs.drop (m * k))
  | 0, _, _, h => by simpa using h
  | m + 1, [], _, h => by simp [EncAll] at h; simp [h, EncAll]
  | m + 1, x :: xs, _, ⟨c1, c2, e, h1, h2⟩ => by
    have := EncAll.drop hR m h2
    subst e
    rw [List.drop_succ_cons, Nat.add_mul, Nat.one_mul, Nat.add_comm, ← hR _ _ h1, ← List.drop_drop, List.drop_left, hR _ _ h1]
    exact this

theorem EncAll.take {α : Type} {R : α → List Value → Prop} {k : Nat} (hR : ∀ x cs, R x cs → cs.length = k) : ∀ (m : Nat) {xs : List α} {cs : List Value}, EncAll R xs cs → EncAll R (xs.take m) (cs.take (m * k))
  | 0, _, _, h => by simp [EncAll]
  | m + 1, [], _, h => by simp [EncAll] at h; simp [h, EncAll]
  | m + 1, x :: xs, _, ⟨c1, c2, e, h1, h2⟩ => by
    have := EncAll.take hR m h2
    subst e
    rw [List.take_succ_cons, Nat.add_mul, Nat.one_mul, Nat.add_comm, ← hR _ _ h1, List.take_length_add_append, hR _ _ h1]
    exact ⟨c1, _, rfl, h1, this⟩

theorem EncAll.getD {α : Type} {R : α → List Value → Prop} {k : Nat} (hR : ∀ x cs, R x cs → cs.length = k) (z : α) : ∀ (i : Nat) {xs : List α} {cs : List Value}, EncAll R xs cs → i < xs.length →
    ∃ es, R (xs.getD i z) es ∧ ∀ j u, es[j]? = some u → cs[i * k + j]? = some u
  | 0, x :: xs, _, ⟨c1, c2, e, h1, h2⟩, _ => ⟨c1, h1, fun j u hj => by rw [e, Nat.zero_mul, Nat.zero_add, List.getElem?_append_left (List.getElem?_eq_some_iff.1 hj).1]; exact hj⟩
  | i + 1, x :: xs, _, ⟨c1, c2, e, h1, h2⟩, hi => by
    obtain ⟨es, h3, h4⟩ := EncAll.getD hR z i h2 (by simpa using hi)
    refine ⟨es, h3, fun j u hj => ?_⟩
    have := h4 j u hj
    have hl := hR _ _ h1
    rw [e, List.getElem?_append_right (by rw [hl, Nat.add_mul]; omega), hl, show (i + 1) * k + j - k = i * k + j by rw [Nat.add_mul]; omega]
    exact this
  | _, [], _, _, hi => by simp at hi

theorem Addr.add_zero' (b o j : Nat) : (⟨b, o, none⟩ : Addr).add j = ⟨b, o + j, none⟩ := by
  unfold Addr.add; split <;> simp_all

theorem Addr.add_spot {a : Addr} (h : a.spot = none) (j : Nat) : a.add j = ⟨a.block, a.off + j, none⟩ := by
  obtain ⟨b, o, s⟩ := a; simp at h; subst h; exact Addr.add_zero' b o j

structure ObjsOK (β : List Value) (Z : Nat → Prop) (w : World) (H : List AObj) : Prop where
  len : β.length = H.length
  objs : ∀ (n : Nat) (o : AObj) (v : Value), H[n]? = some o → β[n]? = some v → ObjOK β Z w v o

theorem ObjsOK.at_ {H : List AObj} (h : ObjsOK β Z w H) {n : Nat} {v : Value} (hv : β[n]? = some v) : ObjOK β Z w v (objAt H n) := by
  have hn : n < H.length := by rw [← h.len]; exact (List.getElem?_eq_some_iff.1 hv).1
  have : H[n]? = some (objAt H n) := by unfold objAt; rw [List.getD_eq_getElem?_getD, List.getElem?_eq_getElem hn]; rfl
  exact h.objs n _ v this hv

theorem FrozenAt.reads {R : List Value → Prop} {n : Nat} {x : Value} (h : FrozenAt Z w R n x) : ReadsL w R n x := by
  obtain ⟨A, c, cs, e, h1, h2, h3, h4⟩ := h
  exact ⟨A, c, cs, e, h1, h2, h3, fun hn => let ⟨ad, a, b, _, d⟩ := h4 hn; ⟨ad, a, b, d⟩⟩

theorem ownsRow_reads {e : TypeId} {size n : Nat} {v : Value} {cs : List Value} (h : w.ownsRow 0 e size v n cs) : ReadsL w (fun l => l = cs) n v ∧ ∃ A c, v = .slice A n c ∧ ∀ ad, A = some ad → ∃ b, ad = ⟨b, 0, none⟩ := by
  rcases h.2 with ⟨rfl, rfl⟩ | ⟨g, cap, cur, rfl, _, _, h1, h2, _⟩
  · exact ⟨⟨none, 0, cs, rfl, Nat.le_refl _, by unfold maxLen; omega, rfl, fun hn => absurd rfl hn⟩, none, 0, rfl, fun ad h => by cases h⟩
  · exact ⟨⟨_, cap, cs, rfl, h1, h2, rfl, fun _ => ⟨_, rfl, rfl, h.cells rfl⟩⟩, _, cap, rfl, fun ad h => by cases h; exact ⟨g, rfl⟩⟩

theorem ReadsL.mono {R R' : List Value → Prop} (hR : ∀ cs, R cs → R' cs) {n : Nat} {x : Value} (h : ReadsL w R n x) : ReadsL w R' n x :=
  let ⟨A, c, cs, e, h1, h2, h3, h4⟩ := h
  ⟨A, c, cs, e, h1, h2, hR _ h3, h4⟩

/-- A view of a slice that begins at the begin of its block. -/
theorem ReadsL.sub {α : Type} {R : α → List Value → Prop} {k : Nat} (hR : ∀ x cs, R x cs → cs.length = k) {xs : List α} {A : Option Addr} {m c : Nat} (hm : m = xs.length) (h : ReadsL w (EncAll R xs) xs.length (.slice A m c))
    {A' : Option Addr} {c' lo len : Nat} (h1 : lo + len ≤ m) (h2 : lo + c' = c) (h3 : len ≠ 0 → ∃ b, A = some ⟨b, 0, none⟩ ∧ A' = some ⟨b, lo * k, none⟩) :
    ReadsL w (EncAll R ((xs.drop lo).take len)) len (.slice A' len c') ∧ ((xs.drop lo).take len).length = len := by
  obtain ⟨A0, c0, cs, e, q1, q2, q3, q4⟩ := h
  cases e
  refine ⟨⟨A', c', (cs.drop (lo * k)).take (len * k), rfl, by omega, by omega, (q3.drop hR lo).take hR len, fun hn => ?_⟩, by simp; omega⟩
  obtain ⟨b, e1, e2⟩ := h3 hn
  obtain ⟨ad, e3, _, e4⟩ := q4 (by omega)
  rw [e1] at e3; cases e3
  refine ⟨_, e2, rfl, fun j u hj => ?_⟩
  have : cs[lo * k + j]? = some u := by
    rw [List.getElem?_take] at hj
    split at hj
    · rwa [List.getElem?_drop] at hj
    · cases hj
  have := e4 _ _ this
  rw [Addr.add_zero'] at this ⊢
  rwa [Nat.zero_add] at this

theorem buf_reads {v : Value} {e : TypeId} {τ : Ty} {ys : List τ.D} {k : Nat} (h : ObjOK β Z w v (.buf e τ ys k)) :
    ∃ A, v = .slice A k ys.length ∧ k ≤ ys.length ∧ ys.length ≤ maxLen ∧ ReadsL w (EncAll (τ.Enc Z w) ys) ys.length (.slice A ys.length ys.length) ∧ ∀ ad, A = some ad → ∃ b, ad = ⟨b, 0, none⟩ := by
  obtain ⟨A, cs, e1, h1, h2, h3⟩ := h
  obtain ⟨hr, A', c', e2, hA⟩ := ownsRow_reads h2
  simp only [Value.slice.injEq] at e2
  obtain ⟨rfl, _, rfl⟩ := e2
  have hr' := hr.mono (R' := EncAll (Ty.Enc Z w _) ys) fun l e' => by rw [e']; exact h3
  refine ⟨A, e1, h1, ?_, hr', hA⟩
  obtain ⟨_, _, _, e3, _, q, _⟩ := hr
  cases e3
  exact q

theorem ReadsL.pre {τ : Ty} {ys : List τ.D} {A : Option Addr} (hr : ReadsL w (EncAll (τ.Enc Z w) ys) ys.length (.slice A ys.length ys.length)) (hA : ∀ ad, A = some ad → ∃ b, ad = ⟨b, 0, none⟩) {len : Nat} (hl : len ≤ ys.length) :
    ReadsL w (EncAll (τ.Enc Z w) (ys.take len)) (ys.take len).length (.slice A len ys.length) := by
  have := hr.sub (fun _ _ => Ty.Enc.length τ) rfl (lo := 0) (len := len) (A' := A) (c' := ys.length) (by omega) (by omega) (fun hne => by
    obtain ⟨_, _, _, e3, _, _, _, h4⟩ := hr
    cases e3
    obtain ⟨ad, e4, _⟩ := h4 (by omega)
    obtain ⟨b, e5⟩ := hA ad e4
    exact ⟨b, by rw [e4, e5], by rw [e4, e5, Nat.zero_mul]⟩)
  rw [List.drop_zero] at this
  rw [this.2]; exact this.1

theorem listOf_conc {H : List AObj} (hH : ObjsOK β Z w H) {τ : Ty} {v : BV} {xs : List τ.D} {x : Value} (h : listOf H τ v = some xs) (hv : v.conc β Z w [x]) : ReadsL w (EncAll (τ.Enc Z w) xs) xs.length x := by
  unfold listOf at h
  split at h
  · cases h
    simp only [BV.conc, List.cons.injEq, and_true] at hv
    subst hv
    exact ⟨none, 0, [], rfl, Nat.le_refl _, by unfold maxLen; omega, rfl, fun hn => absurd rfl hn⟩
  · split at h
    · rename_i q _; subst q; cases h
      obtain ⟨y, e, hy⟩ := hv
      cases e
      exact hy.reads
    · cases h
  · obtain ⟨A, m, c, hb, e⟩ := hv
    cases e
    have ho := hH.at_ hb
    split at h
    · rename_i a ys hn
      split at h
      · rename_i q _; subst q; cases h
        rw [hn] at ho
        obtain ⟨cs, h1, h2, _⟩ := ho
        exact (ownsRow_reads h1).1.mono fun l e => e ▸ h2
      · cases h
    · rename_i a ys hn
      split at h
      · rename_i q _; subst q; cases h
        rw [hn] at ho
        exact ho.1.reads
      · cases h
    · rename_i a ys k hn
      split at h
      · rename_i q _; subst q; cases h
        rw [hn] at ho
        obtain ⟨A', e1, q1, _, hr, hA⟩ := buf_reads ho
        cases e1
        exact hr.pre hA q1
      · cases h
    · cases h
  · obtain ⟨A, m, c, A', c', hb, e, h1, hmc, h2, h3, h4⟩ := hv
    cases e
    have ho := hH.at_ hb
    split at h
    · rename_i a ys hn
      split at h
      · rename_i q _ hw
        have hw := Nat.eq_of_beq_eq_true hw
        subst q hw; cases h
        rw [hn] at ho
        obtain ⟨cs, g1, g2, _⟩ := ho
        have hr := (ownsRow_reads g1).1.mono (R' := EncAll (Ty.Enc Z w _) ys) fun l e' => by rw [e']; exact g2
        have hm : m = ys.length := by obtain ⟨_, _, e, _⟩ := (ownsRow_reads g1).2; cases e; rfl
        have := hr.sub (fun _ _ => Ty.Enc.length a) hm h1 h2 h4
        show ReadsL w (EncAll (a.Enc Z w) ((ys.drop _).take _)) ((ys.drop _).take _).length _
        rw [this.2]; exact this.1
      · cases h
    · rename_i a ys hn
      split at h
      · rename_i q _ hw
        have hw := Nat.eq_of_beq_eq_true hw
        subst q hw; cases h
        rw [hn] at ho
        have hr := ho.1.reads
        have hm : m = ys.length := by obtain ⟨_, _, _, e, _⟩ := hr; cases e; rfl
        have := hr.sub (fun _ _ => Ty.Enc.length a) hm h1 h2 h4
        show ReadsL w (EncAll (a.Enc Z w) ((ys.drop _).take _)) ((ys.drop _).take _).length _
        rw [this.2]; exact this.1
      · cases h
    · cases h
  · rename_i n len
    obtain ⟨A, m, c, hb, e, h1, hmc, h2⟩ := hv
    cases e
    have ho := hH.at_ hb
    split at h
    · rename_i a ys hn
      split at h
      · rename_i q _
        subst q; cases h
        rw [hn] at ho
        obtain ⟨cs, g1, g2, _⟩ := ho
        have hr := (ownsRow_reads g1).1.mono (R' := EncAll (Ty.Enc Z w _) ys) fun l e' => by rw [e']; exact g2
        obtain ⟨_, _, e, hA⟩ := (ownsRow_reads g1).2
        cases e
        have := hr.sub (fun _ _ => Ty.Enc.length a) rfl (lo := 0) (len := len) (A' := A) (c' := c) (by omega) (by omega) (fun hne => by
          obtain ⟨_, _, _, e3, _, _, _, h4⟩ := hr
          cases e3
          obtain ⟨ad, e4, _⟩ := h4 (by omega)
          obtain ⟨b, e5⟩ := hA ad e4
          exact ⟨b, by rw [e4, e5], by rw [e4, e5, Nat.zero_mul]⟩)
        rw [List.drop_zero] at this
        show ReadsL w (EncAll (a.Enc Z w) (ys.take _)) (ys.take _).length _
        rw [this.2]; exact this.1
      · cases h
    · rename_i a ys hn
      split at h
      · rename_i q _
        subst q; cases h
        rw [hn] at ho
        have hr := ho.1.reads
        have hm : m = ys.length := by obtain ⟨_, _, _, e, _⟩ := hr; cases e; rfl
        have := hr.sub (fun _ _ => Ty.Enc.length a) hm (lo := 0) (len := len) (A' := A) (c' := c) (by omega) (by omega) (fun hne => by
          obtain ⟨b, e4⟩ := ho.2 _ _ _ rfl (by omega)
          exact ⟨b, e4, by rw [e4, Nat.zero_mul]⟩)
        rw [List.drop_zero] at this
        show ReadsL w (EncAll (a.Enc Z w) (ys.take _)) (ys.take _).length _
        rw [this.2]; exact this.1
      · cases h
    · cases h
  · obtain ⟨A, m, c, hb, e, h1, h2⟩ := hv
    cases e
    have ho := hH.at_ hb
    split at h
    · rename_i a ys k hn
      split at h
      · rename_i q _; subst q; cases h
        rw [hn] at ho
        obtain ⟨A', e1, q1, _, hr, hA⟩ := buf_reads ho
        cases e1
        exact hr.pre hA h1
      · cases h
    · cases h
  · obtain ⟨A, m, c, A', c', hb, e, h1, h2, h3, h4⟩ := hv
    cases e
    have ho := hH.at_ hb
    split at h
    · rename_i a ys k hn
      split at h
      · rename_i q _ hw
        have hw := Nat.eq_of_beq_eq_true hw
        subst q hw; cases h
        rw [hn] at ho
        obtain ⟨A1, e1, q1, _, hr, hA⟩ := buf_reads ho
        cases e1
        have := hr.sub (fun _ _ => Ty.Enc.length a) rfl h1 h2 h4
        show ReadsL w (EncAll (a.Enc Z w) ((ys.drop _).take _)) ((ys.drop _).take _).length _
        rw [this.2]; exact this.1
      · cases h
    · cases h
  · cases h

theorem lenOf_conc {H : List AObj} (hH : ObjsOK β Z w H) {v : BV} {n : Nat} {x : Value} (h : lenOf H v = some n) (hv : v.conc β Z w [x]) : (∃ A c, x = .slice A n c ∧ n ≤ c ∧ c ≤ maxLen) ∨ ∃ s, v = .str s ∧ x = .string s ∧ s.size = n := by
  unfold lenOf at h
  split at h
  · cases h
    simp only [BV.conc, List.cons.injEq, and_true] at hv
    subst hv
    exact .inl ⟨none, 0, rfl, Nat.le_refl _, by unfold maxLen; omega⟩
  · cases h
    obtain ⟨y, e, A, c, cs, e', h1, h2, _⟩ := hv
    cases e
    exact .inl ⟨A, c, e', h1, h2⟩
  · obtain ⟨A, m, c, hb, e⟩ := hv
    cases e
    have ho := hH.at_ hb
    split at h
    · rename_i a ys hn
      cases h
      rw [hn] at ho
      obtain ⟨cs, h1, h2, _⟩ := ho
      obtain ⟨_, _, _, e, q1, q2, _⟩ := (ownsRow_reads h1).1
      exact .inl ⟨_, _, e, q1, q2⟩
    · rename_i a ys hn
      cases h
      rw [hn] at ho
      obtain ⟨_, _, _, e, q1, q2, _⟩ := ho.1.reads
      exact .inl ⟨_, _, e, q1, q2⟩
    · rename_i a ys k hn
      cases h
      rw [hn] at ho
      obtain ⟨A', e1, q1, q2, _⟩ := buf_reads ho
      exact .inl ⟨_, _, e1, q1, q2⟩
    · cases h
  · cases h
    obtain ⟨A, m, c, A', c', hb, e, h1, hmc, h2, h3, h4⟩ := hv
    cases e
    exact .inl ⟨_, _, rfl, by omega, by omega⟩
  · cases h
    obtain ⟨A, m, c, hb, e, h1, hmc, h2⟩ := hv
    cases e
    exact .inl ⟨_, _, rfl, by omega, by omega⟩
  · cases h
    obtain ⟨A, m, c, hb, e, h1, h2⟩ := hv
    cases e
    exact .inl ⟨_, _, rfl, by omega, by omega⟩
  · cases h
    obtain ⟨A, m, c, A', c', hb, e, h1, h2, h3, h4⟩ := hv
    cases e
    exact .inl ⟨_, _, rfl, by omega, by omega⟩
  · cases h
    simp only [BV.conc, List.cons.injEq, and_true] at hv
    exact .inr ⟨_, rfl, hv, rfl⟩
  · cases h

theorem runAt_conc {off : Nat} {cs : List BV} {vs : List Value} {m : Nat} {τ : Ty} {xs : List τ.D} (h : runAt off cs = some (m, ⟨τ, xs⟩)) (hc : ConcL β Z w cs vs) :
    xs.length = m ∧ ∃ us, EncAll (τ.Enc Z w) xs us ∧ ∀ j u, us[j]? = some u → vs[off + j]? = some u := by
  unfold runAt at h
  split at h
  · rename_i hd
    cases h
    obtain ⟨a, b, e, hl, hb⟩ := dropW_conc hd hc
    obtain ⟨v1, v2, e2, h1, h2⟩ := hb
    subst hl e e2
    refine ⟨h1.1, v1, h1.2, fun j u hj => ?_⟩
    rw [List.getElem?_append_right (by omega), Nat.add_sub_cancel_left, List.getElem?_append_left (List.getElem?_eq_some_iff.1 hj).1]
    exact hj
  · cases h

/-- What is read at an address. -/
theorem cellsAt_conc {H : List AObj} (hH : ObjsOK β Z w H) {p : BV} {sz : Nat} {obs : List Prop} {cs : List BV} {x : Value} (h : cellsAt H sz p = some (obs, cs)) (hobs : ∀ q ∈ obs, q) (hp : p.conc β Z w [x]) :
    ∃ b o vs, x = .pointer (some ⟨b, o, none⟩) ∧ vs.length = sz ∧ ConcL β Z w cs vs ∧ ∀ j u, vs[j]? = some u → w.cell? ⟨b, o + j, none⟩ = some u := by
  unfold cellsAt at h
  split at h
  · obtain ⟨b, hb, e⟩ := hp
    cases e
    have ho := hH.at_ hb
    split at h
    · rename_i hn
      split at h
      · rename_i r hs
        cases h
        rw [hn] at ho
        obtain ⟨b', vs, e, h1, h2⟩ := ho
        cases e
        obtain ⟨us, q1, q2, _, _, q3⟩ := sliceW_conc hs h2
        exact ⟨b, _, us, rfl, q1, q2, fun j u hj => by rw [cell_of_row w b _ vs _ _ h1]; simpa using q3 j u hj⟩
      · cases h
    · cases h
  · obtain ⟨b, m, c, hb, e⟩ := hp
    cases e
    have ho := hH.at_ hb
    split at h
    · rename_i τ ys hn
      split at h
      · rename_i r hw hs
        cases h
        have hi : _ < ys.length := hobs _ (List.mem_singleton.2 rfl)
        have hw := Nat.eq_of_beq_eq_true hw
        subst hw
        rw [hn] at ho
        obtain ⟨vs, g1, g2, _⟩ := ho
        obtain ⟨es, h1, h2⟩ := g2.getD (fun _ _ => Ty.Enc.length τ) τ.zero _ hi
        obtain ⟨us, q1, q2, _, _, q3⟩ := sliceW_conc hs (enc_conc (β := β) τ h1)
        refine ⟨b, _, us, rfl, q1, q2, fun j u hj => ?_⟩
        have := g1.cells (g := b) rfl _ _ (h2 _ _ (q3 _ _ hj))
        rw [Addr.add_zero'] at this
        rw [Nat.zero_add, ← Nat.add_assoc] at this
        exact this
      · cases h
    · rename_i τ ys hn
      split at h
      · rename_i r hw hs
        cases h
        have hi : _ < ys.length := hobs _ (List.mem_singleton.2 rfl)
        have hw := Nat.eq_of_beq_eq_true hw
        subst hw
        rw [hn] at ho
        obtain ⟨A, c', vs, e, _, _, g2, g4⟩ := ho.1
        cases e
        obtain ⟨ad, e, hsp, _, g5⟩ := g4 (by omega)
        cases e
        obtain ⟨es, h1, h2⟩ := g2.getD (fun _ _ => Ty.Enc.length τ) τ.zero _ hi
        obtain ⟨us, q1, q2, _, _, q3⟩ := sliceW_conc hs (enc_conc (β := β) τ h1)
        refine ⟨b, _, us, rfl, q1, q2, fun j u hj => ?_⟩
        have := g5 _ _ (h2 _ _ (q3 _ _ hj))
        rw [Addr.add_zero'] at this
        rw [Nat.zero_add, ← Nat.add_assoc] at this
        exact this
      · cases h
    · cases h
  · rename_i τ y off
    split at h
    · rename_i r hs
      cases h
      obtain ⟨b, o, es, e, _, h1, h2⟩ := hp
      cases e
      obtain ⟨us, q1, q2, _, _, q3⟩ := sliceW_conc hs (enc_conc (β := β) τ h1)
      exact ⟨b, _, us, rfl, q1, q2, fun j u hj => by rw [Nat.add_assoc]; exact h2 _ _ (q3 _ _ hj)⟩
    · cases h
  · obtain ⟨b, hb, e⟩ := hp
    cases e
    have ho := hH.at_ hb
    split at h
    · rename_i hn
      split at h
      · rename_i m' τ ys hrun
        split at h
        · rename_i r hw hm hs
          cases h
          have hi := hobs _ (List.mem_singleton.2 rfl)
          have hw := Nat.eq_of_beq_eq_true hw
          have hm := Nat.eq_of_beq_eq_true hm
          subst hw hm
          rw [hn] at ho
          obtain ⟨b', vs, e, h1, h2⟩ := ho
          cases e
          obtain ⟨hl, us0, g1, g2⟩ := runAt_conc hrun h2
          obtain ⟨es, h3, h4⟩ := g1.getD (fun _ _ => Ty.Enc.length τ) τ.zero _ (by rw [hl]; exact hi)
          obtain ⟨us, q1, q2, _, _, q3⟩ := sliceW_conc hs (enc_conc (β := β) τ h3)
          refine ⟨b, _, us, rfl, q1, q2, fun j u hj => ?_⟩
          rw [cell_of_row w b _ vs _ _ h1]
          have := g2 _ _ (h4 _ _ (q3 _ _ hj))
          rw [← Nat.add_assoc, ← Nat.add_assoc] at this
          simpa using this
        · cases h
      · cases h
    · cases h
  · cases h

end

end Go.Proofs.Ythjogeodclpafaa.AM
