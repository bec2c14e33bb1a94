/- Steps from heap to heap: what a step may turn, and the ways in which an abstract heap goes on. -/
import Derived.Test.YthjogeodclpafaaAm6
import Derived.Laws.NewBlocks
set_option linter.unusedVariables false
set_option linter.unusedSimpArgs false
namespace Go.Proofs.Ythjogeodclpafaa.AM
open Go

/-- From an abstract heap over a world to another one. -/
structure Trans (β : List Value) (H : List AObj) (Z : Nat → Prop) (w : World) (β' : List Value) (H' : List AObj) (Z' : Nat → Prop) (w' : World) : Prop where
  ext : ∃ ext, β' = β ++ ext
  heap : HeapOK β' H' Z' w'
  keep : Keep (LiveB β H) w w'
  zsub : ∀ b, Z b → Z' b
  znew : ∀ b, Z' b → Z b ∨ LiveB β H b ∨ w.heap.size ≤ b
  live : ∀ b, LiveB β' H' b → LiveB β H b ∨ w.heap.size ≤ b

section
variable {β β' β'' : List Value} {H H' H'' : List AObj} {Z Z' Z'' : Nat → Prop} {w w' w'' : World}

theorem HeapOK.objsOK (h : HeapOK β H Z w) : ObjsOK β Z w H := ⟨h.len, h.objs⟩

theorem LiveB.lt (h : HeapOK β H Z w) {b : Nat} (hb : LiveB β H b) : b < w.heap.size := by
  obtain ⟨n, o, v, h1, h2, h3, h4⟩ := hb
  have ho := h.objs n o v h1 h3
  cases o with
  | cells t cs =>
    obtain ⟨b', vs, e, h5, _⟩ := ho
    subst e; cases h4
    exact (Array.getElem?_eq_some_iff.1 h5).1
  | row e τ xs =>
    obtain ⟨cs, h5, _⟩ := ho
    rcases h5.2 with ⟨rfl, _⟩ | ⟨g, cap, cur, rfl, _, h6, _⟩
    · cases h4
    · cases h4; exact (Array.getElem?_eq_some_iff.1 h6).1
  | map agg κ τ es =>
    obtain ⟨b', ms, cl, e, h5, _⟩ := ho
    subst e; cases h4
    exact (Array.getElem?_eq_some_iff.1 h5).1
  | frow _ _ _ => cases h2
  | buf e τ ys k =>
    obtain ⟨A, cs, e1, _, h5, _⟩ := ho
    subst e1
    rcases h5.2 with ⟨e2, _⟩ | ⟨g, cap, cur, e2, _, hg, _⟩
    · simp only [Value.slice.injEq] at e2
      rw [e2.1] at h4; cases h4
    · simp only [Value.slice.injEq] at e2
      rw [e2.1] at h4; cases h4
      exact (Array.getElem?_eq_some_iff.1 hg).1
  | dead => cases h2

theorem HeapOK.zkeep (h : HeapOK β H Z w) (k : Keep (LiveB β H) w w') (hs : ∀ b, Z b → Z' b) : ZKeep Z Z' w w' :=
  ⟨hs, fun b hb => k.block b (h.zlt b hb) fun hl => h.frz b hl hb⟩

theorem Trans.zkeep (h : HeapOK β H Z w) (t : Trans β H Z w β' H' Z' w') : ZKeep Z Z' w w' := h.zkeep t.keep t.zsub

theorem Trans.refl (h : HeapOK β H Z w) : Trans β H Z w β H Z w :=
  ⟨⟨[], by simp⟩, h, Keep.refl _ _, fun _ h => h, fun _ h => .inl h, fun _ h => .inl h⟩

theorem Trans.trans (a : Trans β H Z w β' H' Z' w') (c : Trans β' H' Z' w' β'' H'' Z'' w'') : Trans β H Z w β'' H'' Z'' w'' := by
  refine ⟨?_, c.heap, a.keep.trans c.keep ?_, fun b h => c.zsub b (a.zsub b h), fun b h => ?_, fun b h => ?_⟩
  · obtain ⟨x, rfl⟩ := a.ext
    obtain ⟨y, rfl⟩ := c.ext
    exact ⟨x ++ y, by rw [List.append_assoc]⟩
  · intro x hx hl
    rcases a.live x hl with h | h
    · exact h
    · omega
  · rcases c.znew b h with h | h | h
    · exact a.znew b h
    · rcases a.live b h with h | h
      · exact .inr (.inl h)
      · exact .inr (.inr h)
    · exact .inr (.inr (Nat.le_trans a.keep.size h))
  · rcases c.live b h with h | h
    · exact a.live b h
    · exact .inr (Nat.le_trans a.keep.size h)

theorem SV.conc.trans (h : HeapOK β H Z w) (t : Trans β H Z w β' H' Z' w') {v : SV} {x : Value} (hv : v.conc β Z w x) : v.conc β' Z' w' x := by
  obtain ⟨e, rfl⟩ := t.ext
  exact hv.mono (t.zkeep h)
theorem TV.conc.trans (h : HeapOK β H Z w) (t : Trans β H Z w β' H' Z' w') {v : TV} {x : Value} (hv : v.conc β Z w x) : v.conc β' Z' w' x := by
  obtain ⟨e, rfl⟩ := t.ext
  exact hv.mono (t.zkeep h)
theorem ConcL.trans (h : HeapOK β H Z w) (t : Trans β H Z w β' H' Z' w') {v : List BV} {x : List Value} (hv : ConcL β Z w v x) : ConcL β' Z' w' v x := by
  obtain ⟨e, rfl⟩ := t.ext
  exact hv.mono (t.zkeep h)
theorem TVs.trans (h : HeapOK β H Z w) (t : Trans β H Z w β' H' Z' w') {v : List TV} {x : List Value} (hv : TVs β Z w v x) : TVs β' Z' w' v x := by
  obtain ⟨e, rfl⟩ := t.ext
  exact hv.mono (t.zkeep h)

/-- Draws and what else leaves blocks alone. -/
theorem Trans.same (h : HeapOK β H Z w) (hh : w'.heap = w.heap) (h1 : w'.os = w.os) (h2 : w'.tape = w.tape) (h3 : w'.output = w.output) : Trans β H Z w β H Z w' := by
  have k : Keep (LiveB β H) w w' := ⟨h1, h2, h3, by rw [hh]; exact Nat.le_refl _, fun b _ _ => by rw [hh]⟩
  refine ⟨⟨[], by simp⟩, ⟨h.len, fun n o v ho hv => ?_, h.apart, h.frz, fun b hb => by rw [hh]; exact h.zlt b hb⟩, k, fun _ h => h, fun _ h => .inl h, fun _ h => .inl h⟩
  have := (h.objs n o v ho hv).mono (ext := []) (h.zkeep k fun _ h => h) (fun _ b _ => by rw [hh])
  simpa using this

theorem Trans.drew (h : HeapOK β H Z w) : Trans β H Z w β H Z w.drew := Trans.same h rfl rfl rfl rfl

theorem getElem?_append_one {α : Type} {l : List α} {x y : α} {n : Nat} (h : (l ++ [x])[n]? = some y) : (n < l.length ∧ l[n]? = some y) ∨ (n = l.length ∧ y = x) := by
  rcases Nat.lt_or_ge n l.length with hn | hn
  · exact .inl ⟨hn, by rwa [List.getElem?_append_left hn] at h⟩
  · rw [List.getElem?_append_right hn] at h
    have : n - l.length = 0 := by
      have := (List.getElem?_eq_some_iff.1 h).1; simp at this; omega
    rw [this] at h; simp at h
    exact .inr ⟨by omega, h.symm⟩

/-- A new object whose block is new, or that has none. The world may have gone on by blocks of its own. -/
theorem Trans.new (h : HeapOK β H Z w) (v : Value) (o : AObj) (k : Keep (fun _ => False) w w') (hb : ∀ b, o.live = true → blockOf v = some b → w.heap.size ≤ b ∧ b < w'.heap.size)
    (ho : ObjOK (β ++ [v]) Z w' v o) : Trans β H Z w (β ++ [v]) (H ++ [o]) Z w' := by
  have k' : Keep (LiveB β H) w w' := k.mono fun _ h => h.elim
  have zk := h.zkeep k' fun _ h => h
  have live : ∀ b, LiveB (β ++ [v]) (H ++ [o]) b → LiveB β H b ∨ (w.heap.size ≤ b ∧ b < w'.heap.size) := by
    rintro b ⟨n, p, u, h1, h2, h3, h4⟩
    rcases getElem?_append_one h1 with ⟨hn, h1⟩ | ⟨rfl, rfl⟩
    · rcases getElem?_append_one h3 with ⟨_, h3⟩ | ⟨e, _⟩
      · exact .inl ⟨n, p, u, h1, h2, h3, h4⟩
      · rw [h.len] at e; omega
    · rcases getElem?_append_one h3 with ⟨hn, h3⟩ | ⟨_, rfl⟩
      · rw [h.len] at hn; omega
      · exact .inr (hb b h2 h4)
  refine ⟨⟨[v], rfl⟩, ⟨by simp [h.len], ?_, ?_, ?_, ?_⟩, k', fun _ h => h, fun _ h => .inl h, fun b hl => (live b hl).imp_right fun h => h.1⟩
  · intro n p u h1 h3
    rcases getElem?_append_one h1 with ⟨hn, h1⟩ | ⟨rfl, rfl⟩
    · rcases getElem?_append_one h3 with ⟨_, h3⟩ | ⟨e, _⟩
      · have hp := h.objs n p u h1 h3
        exact hp.mono zk fun hl b hbb => k.block b (LiveB.lt h ⟨n, p, u, h1, hl, h3, hbb⟩) (fun h => h)
      · rw [h.len] at e; omega
    · rcases getElem?_append_one h3 with ⟨hn, h3⟩ | ⟨_, rfl⟩
      · rw [h.len] at hn; omega
      · exact ho
  · intro n m p q u u' b h1 h2 h3 h4 h5 h6 h7 h8
    have lb : ∀ (m : Nat) (p : AObj) (u : Value), m < H.length → H[m]? = some p → p.live = true → (β ++ [v])[m]? = some u → blockOf u = some b → b < w.heap.size := by
      intro m p u hm hp hpl hu hub
      rcases getElem?_append_one hu with ⟨_, hu'⟩ | ⟨e, _⟩
      · exact LiveB.lt h ⟨m, p, u, hp, hpl, hu', hub⟩
      · rw [h.len] at e; omega
    have ln : ∀ (u : Value), (β ++ [v])[H.length]? = some u → u = v := by
      intro u hu
      rcases getElem?_append_one hu with ⟨e, _⟩ | ⟨_, e⟩
      · rw [h.len] at e; omega
      · exact e
    rcases getElem?_append_one h1 with ⟨hn, h1'⟩ | ⟨e1, e2⟩ <;> rcases getElem?_append_one h2 with ⟨hm, h2'⟩ | ⟨e3, e4⟩
    · rcases getElem?_append_one h5 with ⟨_, h5'⟩ | ⟨e, _⟩
      · rcases getElem?_append_one h6 with ⟨_, h6'⟩ | ⟨e, _⟩
        · exact h.apart n m p q u u' b h1' h2' h3 h4 h5' h6' h7 h8
        · rw [h.len] at e; omega
      · rw [h.len] at e; omega
    · have a1 := lb n p u hn h1' h3 h5 h7
      have e5 := ln u' (by rw [← e3]; exact h6)
      have a2 := hb b (by rw [← e4]; exact h4) (by rw [← e5]; exact h8)
      omega
    · have a1 := lb m q u' hm h2' h4 h6 h8
      have e5 := ln u (by rw [← e1]; exact h5)
      have a2 := hb b (by rw [← e2]; exact h3) (by rw [← e5]; exact h7)
      omega
    · omega
  · intro b hl hz
    rcases live b hl with hl | ⟨hl, _⟩
    · exact h.frz b hl hz
    · have := h.zlt b hz; omega
  · intro b hz
    exact Nat.lt_of_lt_of_le (h.zlt b hz) k.size

theorem Keep.allocW (w : World) (o : Obj) (L : Nat → Prop) : Keep L w (w.alloc o) := (Keep.refl L w).alloc o

/-- A nil slice under a name of its own. -/
theorem Trans.nil (h : HeapOK β H Z w) (e : TypeId) (τ : Ty) : Trans β H Z w (β ++ [.slice none 0 0]) (H ++ [.row e τ []]) Z w :=
  Trans.new h _ _ (Keep.refl _ _) (fun b _ hb => by cases hb) ⟨[], World.ownsRow_nil w 0 e τ.wd, rfl, fun _ _ _ _ _ _ e => by cases e⟩

/-- An object is put in the place of another one, at the same block: nothing else has turned. -/
theorem Trans.upd (h : HeapOK β H Z w) {n : Nat} {o o' : AObj} {v : Value} (h1 : H[n]? = some o) (h2 : β[n]? = some v) (hl : o.live = true ∨ o'.live = false) (k : Keep (fun b => o.live = true ∧ blockOf v = some b) w w') (hs : w'.heap.size = w.heap.size)
    (ho : ObjOK β Z w' v o') : Trans β H Z w β (H.set n o') Z w' := by
  have hn : n < H.length := (List.getElem?_eq_some_iff.1 h1).1
  have k' : Keep (LiveB β H) w w' := k.mono fun b hb => ⟨n, o, v, h1, hb.1, h2, hb.2⟩
  have zk := h.zkeep k' fun _ h => h
  have get : ∀ (m : Nat) (p : AObj), (H.set n o')[m]? = some p → (m = n ∧ p = o') ∨ (m ≠ n ∧ H[m]? = some p) := by
    intro m p hp
    by_cases e : m = n
    · subst e; rw [List.getElem?_set_self hn] at hp; cases hp; exact .inl ⟨rfl, rfl⟩
    · rw [List.getElem?_set_ne (fun e' => e e'.symm)] at hp; exact .inr ⟨e, hp⟩
  have liv : o'.live = true → o.live = true := fun h => hl.resolve_right fun h' => by rw [h'] at h; cases h
  have live : ∀ b, LiveB β (H.set n o') b → LiveB β H b := by
    rintro b ⟨m, p, u, g1, g2, g3, g4⟩
    rcases get m p g1 with ⟨rfl, rfl⟩ | ⟨_, g1⟩
    · rw [h2] at g3; cases g3
      exact ⟨m, o, v, h1, liv g2, h2, g4⟩
    · exact ⟨m, p, u, g1, g2, g3, g4⟩
  refine ⟨⟨[], by simp⟩, ⟨by simp [h.len], ?_, ?_, fun b hb => h.frz b (live b hb), fun b hz => by rw [hs]; exact h.zlt b hz⟩, k', fun _ h => h, fun _ h => .inl h, fun b hb => .inl (live b hb)⟩
  · intro m p u g1 g3
    rcases get m p g1 with ⟨rfl, rfl⟩ | ⟨hne, g1⟩
    · rw [h2] at g3; cases g3; exact ho
    · have hp := h.objs m p u g1 g3
      have := hp.mono (ext := []) zk fun hpl b hbb => k.block b (LiveB.lt h ⟨m, p, u, g1, hpl, g3, hbb⟩) fun ⟨a1, a2⟩ => hne (h.apart m n p o u v b g1 h1 hpl a1 g3 h2 hbb a2)
      simpa using this
  · intro a c p q u u' b g1 g2 g3 g4 g5 g6 g7 g8
    rcases get a p g1 with ⟨e1, e2⟩ | ⟨ha, k1⟩ <;> rcases get c q g2 with ⟨e3, e4⟩ | ⟨hc, k2⟩
    · rw [e1, e3]
    · exact h.apart a c o q u u' b (by rw [e1]; exact h1) k2 (liv (by rw [← e2]; exact g3)) g4 g5 g6 g7 g8
    · exact h.apart a c p o u u' b k1 (by rw [e3]; exact h1) g3 (liv (by rw [← e4]; exact g4)) g5 g6 g7 g8
    · exact h.apart a c p q u u' b k1 k2 g3 g4 g5 g6 g7 g8

/-- An object is given up. -/
theorem Trans.kill (h : HeapOK β H Z w) (n : Nat) : Trans β H Z w β (H.set n .dead) Z w := by
  cases hn : H[n]? with
  | none => rw [List.set_eq_of_length_le (by simpa using hn)]; exact Trans.refl h
  | some o =>
    have hlt : n < H.length := (List.getElem?_eq_some_iff.1 hn).1
    have : β[n]? = some (β[n]'(by rw [h.len]; exact hlt)) := List.getElem?_eq_getElem _
    exact Trans.upd h hn this (.inr rfl) (Keep.refl _ _) rfl trivial

theorem EncAll.imp {α : Type} {R : α → List Value → Prop} {xs : List α} {cs : List Value} (h : EncAll R xs cs) : EncAll R xs cs := h

/-- A row is frozen. -/
theorem Trans.freeze (h : HeapOK β H Z w) {n : Nat} {e : TypeId} {τ : Ty} {xs : List τ.D} {v : Value} (h1 : H[n]? = some (.row e τ xs)) (h2 : β[n]? = some v) :
    Trans β H Z w β (H.set n (.frow e τ xs)) (fun b => Z b ∨ blockOf v = some b) w := by
  have hn : n < H.length := (List.getElem?_eq_some_iff.1 h1).1
  have zk : ZKeep Z (fun b => Z b ∨ blockOf v = some b) w w := ⟨fun b h => .inl h, fun _ _ => rfl⟩
  have hlive : ∀ b, blockOf v = some b → LiveB β H b := fun b hb => ⟨n, _, v, h1, rfl, h2, hb⟩
  have get : ∀ (m : Nat) (p : AObj), (H.set n (.frow e τ xs))[m]? = some p → (m = n ∧ p = .frow e τ xs) ∨ (m ≠ n ∧ H[m]? = some p) := by
    intro m p hp
    by_cases e : m = n
    · subst e; rw [List.getElem?_set_self hn] at hp; cases hp; exact .inl ⟨rfl, rfl⟩
    · rw [List.getElem?_set_ne (fun e' => e e'.symm)] at hp; exact .inr ⟨e, hp⟩
  have live : ∀ b, LiveB β (H.set n (.frow e τ xs)) b → LiveB β H b ∧ blockOf v ≠ some b := by
    rintro b ⟨m, p, u, g1, g2, g3, g4⟩
    rcases get m p g1 with ⟨rfl, rfl⟩ | ⟨hne, g1⟩
    · cases g2
    · exact ⟨⟨m, p, u, g1, g2, g3, g4⟩, fun hv => hne (h.apart m n p _ u v b g1 h1 g2 rfl g3 h2 g4 hv)⟩
  refine ⟨⟨[], by simp⟩, ⟨by simp [h.len], ?_, ?_, ?_, ?_⟩, Keep.refl _ _, fun _ h => .inl h, ?_, fun b hb => .inl (live b hb).1⟩
  · intro m p u g1 g3
    rcases get m p g1 with ⟨rfl, rfl⟩ | ⟨hne, g1⟩
    · rw [h2] at g3; cases g3
      obtain ⟨cs, q1, q2, _⟩ := h.objs m _ v h1 h2
      obtain ⟨⟨A, c, cs', e1, r1, r2, r3, r4⟩, A', c', e2, r5⟩ := ownsRow_reads q1
      subst r3
      refine ⟨⟨A, c, cs', e1, r1, r2, q2.mono fun _ _ => Ty.Enc.mono zk τ, fun hne => ?_⟩, fun A'' n'' c'' e3 hne => ?_⟩
      · obtain ⟨ad, rfl, hsp, hc⟩ := r4 hne
        exact ⟨ad, rfl, hsp, .inr (by rw [e1]; rfl), hc⟩
      · rw [e1] at e3; cases e3
        rw [e1] at e2; cases e2
        obtain ⟨ad, e4, _⟩ := r4 hne
        obtain ⟨b, e5⟩ := r5 ad e4
        exact ⟨b, by rw [e4, e5]⟩
    · have hp := h.objs m p u g1 g3
      have := hp.mono (ext := []) zk fun _ b _ => rfl
      simpa using this
  · intro a c p q u u' b g1 g2 g3 g4 g5 g6 g7 g8
    rcases get a p g1 with ⟨rfl, rfl⟩ | ⟨ha, g1⟩
    · cases g3
    · rcases get c q g2 with ⟨rfl, rfl⟩ | ⟨hc, g2⟩
      · cases g4
      · exact h.apart a c p q u u' b g1 g2 g3 g4 g5 g6 g7 g8
  · intro b hb hz
    obtain ⟨a1, a2⟩ := live b hb
    rcases hz with hz | hz
    · exact h.frz b a1 hz
    · exact a2 hz
  · intro b hz
    rcases hz with hz | hz
    · exact h.zlt b hz
    · exact LiveB.lt h (hlive b hz)
  · intro b hz
    rcases hz with hz | hz
    · exact .inl hz
    · exact .inr (.inl (hlive b hz))

/-- A row of n is given up, and a new name has what an append made of it: at the same block or at a new one. -/
theorem Trans.regrow (h : HeapOK β H Z w) {n : Nat} {o o' : AObj} {v v' : Value} (h1 : H[n]? = some o) (hol : o.live = true) (h2 : β[n]? = some v) (k : Keep (fun b => blockOf v = some b) w w')
    (hb : ∀ b, blockOf v' = some b → blockOf v = some b ∨ w.heap.size ≤ b) (hz : ∀ b, blockOf v' = some b → b < w'.heap.size)
    (ho : ObjOK (β ++ [v']) Z w' v' o') : Trans β H Z w (β ++ [v']) (H.set n .dead ++ [o']) Z w' := by
  have hn : n < H.length := (List.getElem?_eq_some_iff.1 h1).1
  have k' : Keep (LiveB β H) w w' := k.mono fun b hb => ⟨n, o, v, h1, hol, h2, hb⟩
  have zk := h.zkeep k' fun _ h => h
  have get : ∀ (m : Nat) (p : AObj), (H.set n .dead ++ [o'])[m]? = some p → (m = n ∧ p = .dead) ∨ (m ≠ n ∧ m < H.length ∧ H[m]? = some p) ∨ (m = H.length ∧ p = o') := by
    intro m p hp
    rcases getElem?_append_one hp with ⟨hm, hp⟩ | ⟨hm, rfl⟩
    · by_cases e : m = n
      · subst e; rw [List.getElem?_set_self hn] at hp; cases hp; exact .inl ⟨rfl, rfl⟩
      · rw [List.getElem?_set_ne (fun e' => e e'.symm)] at hp; exact .inr (.inl ⟨e, by simpa using hm, hp⟩)
    · exact .inr (.inr ⟨by simpa using hm, rfl⟩)
  have getb : ∀ (m : Nat) (u : Value), (β ++ [v'])[m]? = some u → m < H.length → β[m]? = some u := by
    intro m u hu hm
    rcases getElem?_append_one hu with ⟨_, hu⟩ | ⟨e, _⟩
    · exact hu
    · rw [h.len] at e; omega
  have getb' : ∀ (u : Value), (β ++ [v'])[H.length]? = some u → u = v' := by
    intro u hu
    rcases getElem?_append_one hu with ⟨e, _⟩ | ⟨_, e⟩
    · rw [h.len] at e; omega
    · exact e
  have live : ∀ b, LiveB (β ++ [v']) (H.set n .dead ++ [o']) b → LiveB β H b ∨ w.heap.size ≤ b := by
    rintro b ⟨m, p, u, g1, g2, g3, g4⟩
    rcases get m p g1 with ⟨rfl, rfl⟩ | ⟨_, hm, g1⟩ | ⟨rfl, rfl⟩
    · cases g2
    · exact .inl ⟨m, p, u, g1, g2, getb m u g3 hm, g4⟩
    · have := getb' u g3; subst this
      rcases hb b g4 with q | q
      · exact .inl ⟨n, o, v, h1, hol, h2, q⟩
      · exact .inr q
  refine ⟨⟨[v'], rfl⟩, ⟨by simp [h.len], ?_, ?_, ?_, fun b hzz => Nat.lt_of_lt_of_le (h.zlt b hzz) k.size⟩, k', fun _ h => h, fun _ h => .inl h, live⟩
  · intro m p u g1 g3
    rcases get m p g1 with ⟨rfl, rfl⟩ | ⟨hne, hm, g1⟩ | ⟨rfl, rfl⟩
    · trivial
    · have hp := h.objs m p u g1 (getb m u g3 hm)
      exact hp.mono zk fun hpl b hbb => k.block b (LiveB.lt h ⟨m, p, u, g1, hpl, getb m u g3 hm, hbb⟩) fun a2 => hne (h.apart m n p o u v b g1 h1 hpl hol (getb m u g3 hm) h2 hbb a2)
    · have := getb' u g3; subst this; exact ho
  · intro a c p q u u' b g1 g2 g3 g4 g5 g6 g7 g8
    have key : ∀ (m : Nat) (p : AObj) (u : Value), m ≠ n → m < H.length → H[m]? = some p → p.live = true → β[m]? = some u → blockOf u = some b → blockOf v' = some b → False := by
      intro m p u hne hm hp hpl hu hub hvb
      rcases hb b hvb with q | q
      · exact hne (h.apart m n p o u v b hp h1 hpl hol hu h2 hub q)
      · have := LiveB.lt h ⟨m, p, u, hp, hpl, hu, hub⟩; omega
    rcases get a p g1 with ⟨e1, e2⟩ | ⟨ha, hm, k1⟩ | ⟨e1, e2⟩
    · rw [e2] at g3; cases g3
    · rcases get c q g2 with ⟨e3, e4⟩ | ⟨hc, hm', k2⟩ | ⟨e3, e4⟩
      · rw [e4] at g4; cases g4
      · exact h.apart a c p q u u' b k1 k2 g3 g4 (getb a u g5 hm) (getb c u' g6 hm') g7 g8
      · have e5 := getb' u' (by rw [← e3]; exact g6)
        exact (key a p u ha hm k1 g3 (getb a u g5 hm) g7 (by rw [← e5]; exact g8)).elim
    · rcases get c q g2 with ⟨e3, e4⟩ | ⟨hc, hm', k2⟩ | ⟨e3, e4⟩
      · rw [e4] at g4; cases g4
      · have e5 := getb' u (by rw [← e1]; exact g5)
        exact (key c q u' hc hm' k2 g4 (getb c u' g6 hm') g8 (by rw [← e5]; exact g7)).elim
      · omega
  · intro b hl hzz
    rcases live b hl with q | q
    · exact h.frz b q hzz
    · have := h.zlt b hzz; omega

end

end Go.Proofs.Ythjogeodclpafaa.AM
