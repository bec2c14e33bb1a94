/- What a call makes of a part of the heap is put back into the whole. -/
import Derived.Test.YthjogeodclpafaaAm12
set_option linter.unusedVariables false
set_option linter.unusedSimpArgs false
namespace Go.Proofs.Ythjogeodclpafaa.AM
open Go

def backN (h : Nat) (ns : List Nat) (i : Nat) : Nat :=
  match ns[i]? with
  | some n => n
  | none => h + (i - ns.length)

def mergeGo (ns : List Nat) (Hl : List AObj) (ρ : Nat → Nat) : Nat → List AObj → List AObj
  | _, [] => []
  | k, o :: r => (match memN k ns with
    | true => (objAt Hl (idxN k ns)).ren ρ
    | false => o) :: mergeGo ns Hl ρ (k + 1) r

def mergeH (H : List AObj) (ns : List Nat) (Hl : List AObj) : List AObj :=
  mergeGo ns Hl (backN H.length ns) 0 H ++ renO (backN H.length ns) (Hl.drop ns.length)

/-- No address of frozen memory in it. -/
def Ty.noF : Ty → Bool
  | .pair a b => a.noF && b.noF
  | .sl _ _ => false
  | .arr _ a => a.noF
  | _ => true

def BV.noF : BV → Bool
  | .fptr _ _ _ => false
  | .fsl _ _ _ => false
  | .arr _ τ _ => τ.noF
  | _ => true

def noFL : List BV → Bool
  | [] => true
  | c :: cs => c.noF && noFL cs

def TV.noF (v : TV) : Bool := noFL v.cells

def noFT : List TV → Bool
  | [] => true
  | t :: ts => t.noF && noFT ts

def SV.noF : SV → Bool
  | .any => true
  | .t v => v.noF
  | .tup vs => noFT vs
  | .cond _ _ v => v.noF

def AObj.noF : AObj → Bool
  | .cells _ cs => noFL cs
  | .row _ τ _ => τ.noF
  | .map _ κ τ _ => κ.noF && τ.noF
  | .frow _ _ _ => false
  | .buf _ τ _ _ => τ.noF
  | .dead => true

def noFO : List AObj → Bool
  | [] => true
  | o :: r => o.noF && noFO r

section
variable {β β' : List Value} {Z Z' : Nat → Prop} {w w' : World} {H : List AObj}

theorem EncAll.cong {α : Type} {R R' : α → List Value → Prop} (h : ∀ x cs, R x cs → R' x cs) {xs : List α} {cs : List Value} (hh : EncAll R xs cs) : EncAll R' xs cs := hh.mono h

theorem Ty.Enc.noF : ∀ (τ : Ty), τ.noF = true → ∀ {x : τ.D} {cs : List Value}, τ.Enc Z w x cs → τ.Enc Z' w' x cs
  | .int _, _, _, _, h => h
  | .bool, _, _, _, h => h
  | .str, _, _, _, h => h
  | .pair a b, hf, _, _, ⟨c1, c2, e, h1, h2⟩ => by
    simp only [Ty.noF, Bool.and_eq_true] at hf
    exact ⟨c1, c2, e, Ty.Enc.noF a hf.1 h1, Ty.Enc.noF b hf.2 h2⟩
  | .sl _ _, hf, _, _, _ => by cases hf
  | .arr _ a, hf, _, _, ⟨e, h⟩ => ⟨e, h.mono fun _ _ => Ty.Enc.noF a hf⟩

theorem BV.conc.noF : ∀ {v : BV} {cs : List Value}, v.noF = true → v.conc β Z w cs → v.conc β Z' w' cs
  | .any, _, _, h => h
  | .int _ _, _, _, h => h
  | .bool _, _, _, h => h
  | .lit _, _, _, h => h
  | .str _, _, _, h => h
  | .nilp, _, _, h => h
  | .nils, _, _, h => h
  | .nilm, _, _, h => h
  | .nilf, _, _, h => h
  | .ptr _ _, _, _, h => h
  | .eptr _ _ _ _, _, _, h => h
  | .fptr _ _ _, _, hf, _ => by cases hf
  | .aptr _ _ _ _ _ _, _, _, h => h
  | .hd _, _, _, h => h
  | .sub _ _ _ _, _, _, h => h
  | .fsl _ _ _, _, hf, _ => by cases hf
  | .map _, _, _, h => h
  | .fn _ _, _, _, h => h
  | .arr _ τ _, _, hf, ⟨e, h⟩ => ⟨e, h.mono fun _ _ => Ty.Enc.noF τ hf⟩
  | .nz _ _, _, _, h => h
  | .pre _ _, _, _, h => h
  | .win _ _ _ _, _, _, h => h
  | .prec _ _, _, _, h => h

theorem ConcL.noF : ∀ {cs : List BV} {vs : List Value}, noFL cs = true → ConcL β Z w cs vs → ConcL β Z' w' cs vs
  | [], _, _, h => h
  | _ :: _, _, hf, ⟨v1, v2, e, h1, h2⟩ => by
    simp only [noFL, Bool.and_eq_true] at hf
    exact ⟨v1, v2, e, h1.noF hf.1, ConcL.noF hf.2 h2⟩

theorem TV.conc.noF {t : TV} {x : Value} (hf : t.noF = true) (h : t.conc β Z w x) : t.conc β Z' w' x := by
  cases t with
  | one v =>
    have : v.noF = true := by simpa [TV.noF, TV.cells, noFL] using hf
    exact BV.conc.noF this h
  | agg cs =>
    obtain ⟨vs, e, hc⟩ := h
    exact ⟨vs, e, hc.noF hf⟩

theorem TVs.noF : ∀ {ts : List TV} {xs : List Value}, noFT ts = true → TVs β Z w ts xs → TVs β Z' w' ts xs
  | [], _, _, h => h
  | _ :: _, _, hf, ⟨x, r, e, h1, h2⟩ => by
    simp only [noFT, Bool.and_eq_true] at hf
    exact ⟨x, r, e, h1.noF hf.1, TVs.noF hf.2 h2⟩

theorem SV.conc.noF {t : SV} {x : Value} (hf : t.noF = true) (h : t.conc β Z w x) : t.conc β Z' w' x := by
  cases t with
  | any => trivial
  | t v => exact TV.conc.noF hf h
  | tup ts => obtain ⟨xs, e, h⟩ := h; exact ⟨xs, e, h.noF hf⟩
  | cond ts b v => exact ⟨fun hb => (h.1 hb).noF hf, h.2⟩

theorem MapEnc.noF {κ τ : Ty} {agg : Bool} (hκ : κ.noF = true) (hτ : τ.noF = true) : ∀ {es : List (κ.D × τ.D)} {ms : List MapEntry}, MapEnc agg Z w es ms → MapEnc agg Z' w' es ms
  | [], _, h => h
  | _ :: _, _, ⟨e, ms', h, h1, ⟨cv, e2, h2⟩, hr⟩ => ⟨e, ms', h, Ty.Enc.noF κ hκ h1, ⟨cv, e2, Ty.Enc.noF τ hτ h2⟩, MapEnc.noF hκ hτ hr⟩

theorem ObjOK.noF {o : AObj} {v : Value} (hf : o.noF = true) (h : ObjOK β Z w v o) : ObjOK β Z' w v o := by
  cases o with
  | cells t cs => obtain ⟨b, vs, e, h1, h2⟩ := h; exact ⟨b, vs, e, h1, h2.noF hf⟩
  | row _ τ _ => obtain ⟨cs, h1, h2, h3⟩ := h; exact ⟨cs, h1, h2.mono fun _ _ => Ty.Enc.noF τ hf, fun g n cap cur t o e hg => let ⟨js, hj⟩ := h3 g n cap cur t o e hg; ⟨js, hj.mono fun _ _ => Ty.Enc.noF τ hf⟩⟩
  | map _ κ τ _ =>
    simp only [AObj.noF, Bool.and_eq_true] at hf
    obtain ⟨b, ms, c, e, h1, h2⟩ := h
    exact ⟨b, ms, c, e, h1, h2.noF hf.1 hf.2⟩
  | frow _ _ _ => cases hf
  | buf _ τ _ _ => obtain ⟨A, cs, e, h1, h2, h3⟩ := h; exact ⟨A, cs, e, h1, h2, h3.mono fun _ _ => Ty.Enc.noF τ hf⟩
  | dead => trivial

theorem noFO_get : ∀ {l : List AObj} {i : Nat} {o : AObj}, noFO l = true → l[i]? = some o → o.noF = true
  | [], _, _, _, h => by simp at h
  | p :: r, 0, o, hf, h => by simp only [noFO, Bool.and_eq_true] at hf; simp at h; rw [← h]; exact hf.1
  | p :: r, i + 1, o, hf, h => by simp only [noFO, Bool.and_eq_true] at hf; exact noFO_get hf.2 (by simpa using h)

theorem mergeGo_get (ns : List Nat) (Hl : List AObj) (ρ : Nat → Nat) : ∀ (H : List AObj) (k j : Nat), (mergeGo ns Hl ρ k H)[j]? = (H[j]?).map fun o => match memN (k + j) ns with | true => (objAt Hl (idxN (k + j) ns)).ren ρ | false => o
  | [], k, j => by simp [mergeGo]
  | o :: r, k, 0 => by simp [mergeGo]
  | o :: r, k, j + 1 => by
    simp only [mergeGo, List.getElem?_cons_succ]
    rw [mergeGo_get ns Hl ρ r (k + 1) j, show k + 1 + j = k + (j + 1) by omega]

theorem mergeGo_length (ns : List Nat) (Hl : List AObj) (ρ : Nat → Nat) : ∀ (H : List AObj) (k : Nat), (mergeGo ns Hl ρ k H).length = H.length
  | [], _ => rfl
  | _ :: r, k => by simp [mergeGo, mergeGo_length ns Hl ρ r]

theorem PartOK.back {ns : List Nat} {Hl Hl' : List AObj} {ext : List Value} (p : PartOK β H ns Hl) (h : HeapOK β H Z w)
    (hlen : (partB β ns ++ ext).length = Hl'.length) (keep : Keep (LiveB (partB β ns) Hl) w w')
    (live : ∀ b, LiveB (partB β ns ++ ext) Hl' b → LiveB (partB β ns) Hl b ∨ w.heap.size ≤ b)
    (apart : ∀ (n m : Nat) (o q : AObj) (u v : Value) (b : Nat), Hl'[n]? = some o → Hl'[m]? = some q → o.live = true → q.live = true → (partB β ns ++ ext)[n]? = some u → (partB β ns ++ ext)[m]? = some v → blockOf u = some b → blockOf v = some b → n = m)
    (z1 : ∀ b, Z b → Z' b) (z2 : ∀ b, Z' b → Z b ∨ LiveB (partB β ns) Hl b ∨ w.heap.size ≤ b) (z3 : ∀ b, LiveB (partB β ns ++ ext) Hl' b → ¬ Z' b) (z4 : ∀ b, Z' b → b < w'.heap.size)
    (z5 : ∀ (i : Nat) (o : AObj) (v : Value), Hl'[i]? = some o → (partB β ns ++ ext)[i]? = some v → ObjOK (partB β ns ++ ext) Z' w' v o) :
    Trans β H Z w (β ++ ext) (mergeH H ns Hl') Z' w' ∧ ∀ l, RenOK (backN H.length ns) (partB β ns ++ ext) (β ++ ext) l := by
  have hpl : (partB β ns).length = ns.length := by simp [partB]
  have hkeep : Keep (LiveB β H) w w' := keep.mono fun b hb => p.liveB h hb
  have zk : ZKeep Z Z' w w' := h.zkeep hkeep z1
  -- the renaming
  have ren : ∀ l, RenOK (backN H.length ns) (partB β ns ++ ext) (β ++ ext) l := by
    intro l i _ v hv
    unfold backN
    cases hn : ns[i]? with
    | some n =>
      have hi : i < ns.length := (List.getElem?_eq_some_iff.1 hn).1
      rw [List.getElem?_append_left (by rw [hpl]; exact hi)] at hv
      obtain ⟨n', hn', e⟩ := partB_inv hv
      rw [hn] at hn'; cases hn'
      obtain ⟨u, g1, _, g3, _⟩ := h.get (p.lt n (List.mem_of_getElem? hn))
      exact get_app (by rw [e, g3]; exact g1)
    | none =>
      have hi : ns.length ≤ i := by simpa using hn
      rw [List.getElem?_append_right (by rw [hpl]; exact hi), hpl] at hv
      show (β ++ ext)[H.length + (i - ns.length)]? = some v
      rw [List.getElem?_append_right (by rw [h.len]; omega), h.len, Nat.add_sub_cancel_left]
      exact hv
  have hext : ext.length = Hl'.length - ns.length := by rw [← hlen, List.length_append, hpl]; omega
  have hle : ns.length ≤ Hl'.length := by rw [← hlen, List.length_append, hpl]; omega
  have hmlen : (mergeGo ns Hl' (backN H.length ns) 0 H).length = H.length := mergeGo_length _ _ _ _ _
  -- what lies at a name
  have get : ∀ (m : Nat) (o : AObj) (v : Value), (mergeH H ns Hl')[m]? = some o → (β ++ ext)[m]? = some v →
      (∃ i q, Hl'[i]? = some q ∧ (partB β ns ++ ext)[i]? = some v ∧ o = q.ren (backN H.length ns) ∧ backN H.length ns i = m) ∨ (m ∉ ns ∧ H[m]? = some o ∧ β[m]? = some v) := by
    intro m o v ho hv
    unfold mergeH at ho
    by_cases hm : m < H.length
    · rw [List.getElem?_append_left (by rw [hmlen]; exact hm), mergeGo_get, Nat.zero_add] at ho
      rw [List.getElem?_append_left (by rw [h.len]; exact hm)] at hv
      obtain ⟨u, g1, g2, g3, _⟩ := h.get hm
      rw [g2, Option.map_some] at ho
      rw [g1] at hv; cases hv
      split at ho
      · rename_i q
        have hmem := memN_iff.1 q
        have hidx := idxN_get hmem
        have hi : idxN m ns < ns.length := (List.getElem?_eq_some_iff.1 hidx).1
        have hget : Hl'[idxN m ns]? = some (objAt Hl' (idxN m ns)) := by
          unfold objAt; rw [List.getD_eq_getElem?_getD, List.getElem?_eq_getElem (by omega)]; rfl
        refine .inl ⟨idxN m ns, _, hget, ?_, (Option.some.inj ho).symm, by unfold backN; rw [hidx]⟩
        exact get_app (partB_get hidx g1)
      · rename_i q
        have hmem : m ∉ ns := fun e => by rw [memN_iff.2 e] at q; cases q
        exact .inr ⟨hmem, by rw [← Option.some.inj ho]; exact g2, g1⟩
    · have hm' : H.length ≤ m := by omega
      rw [List.getElem?_append_right (by rw [hmlen]; exact hm'), hmlen, renO_get, List.getElem?_drop] at ho
      rw [List.getElem?_append_right (by rw [h.len]; exact hm'), h.len] at hv
      cases hq : Hl'[ns.length + (m - H.length)]? with
      | none => rw [hq] at ho; cases ho
      | some q =>
        rw [hq] at ho
        refine .inl ⟨_, q, hq, ?_, (Option.some.inj ho).symm, ?_⟩
        · rw [List.getElem?_append_right (by rw [hpl]; omega), hpl, Nat.add_sub_cancel_left]; exact hv
        · unfold backN
          rw [List.getElem?_eq_none (by omega)]
          show H.length + (ns.length + (m - H.length) - ns.length) = m
          omega
  have other : ∀ (m : Nat) (o : AObj) (v : Value) (b : Nat), m ∉ ns → H[m]? = some o → o.live = true → β[m]? = some v → blockOf v = some b → ¬ LiveB (partB β ns) Hl b := by
    intro m o v b hm ho hol hv hb hl
    obtain ⟨n, hn, u, g1, g2, g3, g4⟩ := p.live h hl
    have := h.apart m n o _ v u b ho g1 hol g2 hv g3 hb g4
    exact hm (this ▸ hn)
  have liveM : ∀ b, LiveB (β ++ ext) (mergeH H ns Hl') b → LiveB (partB β ns ++ ext) Hl' b ∨ (LiveB β H b ∧ ¬ LiveB (partB β ns) Hl b) := by
    rintro b ⟨m, o, v, h1, h2, h3, h4⟩
    rcases get m o v h1 h3 with ⟨i, q, g1, g2, g3, _⟩ | ⟨g1, g2, g3⟩
    · exact .inl ⟨i, q, v, g1, by rw [g3, AObj.live_ren] at h2; exact h2, g2, h4⟩
    · exact .inr ⟨⟨m, o, v, g2, h2, g3, h4⟩, other m o v b g1 g2 h2 g3 h4⟩
  refine ⟨⟨⟨ext, rfl⟩, ⟨?_, ?_, ?_, ?_, z4⟩, hkeep, z1, fun b hb => ?_, fun b hb => ?_⟩, ren⟩
  · unfold mergeH
    rw [List.length_append, List.length_append, hmlen, renO_length, List.length_drop, h.len, hext]
  · intro m o v h1 h3
    rcases get m o v h1 h3 with ⟨i, q, g1, g2, g3, _⟩ | ⟨g1, g2, g3⟩
    · rw [g3]
      exact (z5 i q v g1 g2).ren (ren _)
    · have ho := h.objs m o v g2 g3
      exact ho.mono zk fun hol b hb => keep.block b (LiveB.lt h ⟨m, o, v, g2, hol, g3, hb⟩) (other m o v b g1 g2 hol g3 hb)
  · intro n m o q u v b h1 h2 h3 h4 h5 h6 h7 h8
    rcases get n o u h1 h5 with ⟨i, q1, g1, g2, g3, e1⟩ | ⟨g1, g2, g3⟩ <;> rcases get m q v h2 h6 with ⟨j, q2, k1, k2, k3, e2⟩ | ⟨k1, k2, k3⟩
    · rw [g3, AObj.live_ren] at h3
      rw [k3, AObj.live_ren] at h4
      have := apart i j q1 q2 u v b g1 k1 h3 h4 g2 k2 h7 h8
      rw [← e1, ← e2, this]
    · rw [g3, AObj.live_ren] at h3
      exfalso
      rcases live b ⟨i, q1, u, g1, h3, g2, h7⟩ with hl | hl
      · exact other m q v b k1 k2 h4 k3 h8 hl
      · have := LiveB.lt h ⟨m, q, v, k2, h4, k3, h8⟩; omega
    · rw [k3, AObj.live_ren] at h4
      exfalso
      rcases live b ⟨j, q2, v, k1, h4, k2, h8⟩ with hl | hl
      · exact other n o u b g1 g2 h3 g3 h7 hl
      · have := LiveB.lt h ⟨n, o, u, g2, h3, g3, h7⟩; omega
    · exact h.apart n m o q u v b g2 k2 h3 h4 g3 k3 h7 h8
  · intro b hb hz
    rcases liveM b hb with hl | ⟨hl, hnl⟩
    · exact z3 b hl hz
    · rcases z2 b hz with q | q | q
      · exact h.frz b hl q
      · exact hnl q
      · have := LiveB.lt h hl; omega
  · rcases z2 b hb with q | q | q
    · exact .inl q
    · exact .inr (.inl (p.liveB h q))
    · exact .inr (.inr q)
  · rcases liveM b hb with hl | ⟨hl, _⟩
    · rcases live b hl with q | q
      · exact .inl (p.liveB h q)
      · exact .inr q
    · exact .inl hl

end

end Go.Proofs.Ythjogeodclpafaa.AM
