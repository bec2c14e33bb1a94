/- Contracts of functions over abstract heaps, and what a call in the midst of a greater heap comes to. -/
import Derived.Test.YthjogeodclpafaaAm13
set_option linter.unusedVariables false
set_option linter.unusedSimpArgs false
namespace Go.Proofs.Ythjogeodclpafaa.AM
open Go

/-- The function returns, whatever the heap stands for, and 'K' holds of the result and of the heap behind it. -/
def Sat (P : Program) (f : FuncId) (args : List SV) (H : List AObj) (K : SV → List AObj → Prop) : Prop :=
  ∀ (β : List Value) (Z : Nat → Prop) (w : World) (cargs : List Value), HeapOK β H Z w → SVs β Z w args cargs →
    Calls P f cargs.toArray w fun e w' => ∃ v r H' β' Z', e = .returned v ∧ K r H' ∧ r.conc β' Z' w' v ∧ Trans β H Z w β' H' Z' w'

structure Spec where
  ro : List Bool
  cps : List SV → List AObj → (SV → List AObj → Prop) → Prop

abbrev Tab := FuncId → Option Spec

def TabOK (P : Program) (T : Tab) : Prop := ∀ f S, T f = some S → ∀ vs H K, S.cps vs H K → Sat P f vs H K

/-! ### A slice is lent -/
def BV.view (H : List AObj) : BV → BV × List Nat
  | .hd n => match objAt H n with
    | .row e τ xs => (.fsl e τ xs, [n])
    | .frow e τ xs => (.fsl e τ xs, [])
    | _ => (.hd n, [])
  | .sub n wd lo len => match objAt H n with
    | .row e τ xs => match Nat.beq wd τ.wd with
      | true => (.fsl e τ ((xs.drop lo).take len), [n])
      | false => (.sub n wd lo len, [])
    | .frow e τ xs => match Nat.beq wd τ.wd with
      | true => (.fsl e τ ((xs.drop lo).take len), [])
      | false => (.sub n wd lo len, [])
    | _ => (.sub n wd lo len, [])
  | .pre n len => match objAt H n with
    | .row e τ xs => (.fsl e τ (xs.take len), [n])
    | .frow e τ xs => (.fsl e τ (xs.take len), [])
    | _ => (.pre n len, [])
  | v => (v, [])

def viewL (H : List AObj) : List BV → List BV × List Nat
  | [] => ([], [])
  | c :: cs => match c.view H, viewL H cs with
    | (c', a), (cs', b) => (c' :: cs', a ++ b)

def TV.view (H : List AObj) : TV → TV × List Nat
  | .one v => match v.view H with
    | (v', a) => (.one v', a)
  | .agg cs => match viewL H cs with
    | (cs', a) => (.agg cs', a)

def SV.view (H : List AObj) : SV → SV × List Nat
  | .t v => match v.view H with
    | (v', a) => (.t v', a)
  | v => (v, [])

def viewS (H : List AObj) : List Bool → List SV → List SV × List Nat
  | _, [] => ([], [])
  | true :: bs, v :: vs => match v.view H, viewS H bs vs with
    | (v', a), (vs', b) => (v' :: vs', a ++ b)
  | false :: bs, v :: vs => match viewS H bs vs with
    | (vs', b) => (v :: vs', b)
  | [], v :: vs => match viewS H [] vs with
    | (vs', b) => (v :: vs', b)

def disjN (ns : List Nat) : List Nat → Bool
  | [] => true
  | n :: r => match memN n ns with
    | true => false
    | false => disjN ns r

def isNil {α : Type} : List α → Bool
  | [] => true
  | _ => false

def callVC (P : Program) (T : Tab) (f : FuncId) (vs : List SV) (H : List AObj) (K : SV → List AObj → Prop) : Prop :=
  match T f with
  | none => Sat P f vs H K
  | some S => match viewS H S.ro vs with
    | (vs', bor) => match reach H (namesS vs') with
      | ns => match partOf H ns, allIn ns (namesS vs'), disjN ns bor with
        | some Hl, true, true => S.cps (renS (fun n => idxN n ns) vs') Hl fun r Hl' => match isNil bor || (r.noF && noFO Hl') with
          | true => K (r.ren (backN H.length ns)) (mergeH H ns Hl')
          | false => False
        | _, _, _ => False

section
variable {P : Program} {T : Tab} {β β' : List Value} {Z Z' : Nat → Prop} {w w' : World} {H : List AObj}

/-- Frozen blocks, and those of the rows that are lent. -/
def ZB (β : List Value) (Z : Nat → Prop) (bor : List Nat) (b : Nat) : Prop := Z b ∨ ∃ n ∈ bor, ∃ u, β[n]? = some u ∧ blockOf u = some b

theorem zb_keep (β : List Value) (Z : Nat → Prop) (bor : List Nat) (w : World) : ZKeep Z (ZB β Z bor) w w := ⟨fun _ h => .inl h, fun _ _ => rfl⟩

theorem row_view (hh : HeapOK β H Z w) {n : Nat} {e : TypeId} {τ : Ty} {xs : List τ.D} (ho : objAt H n = .row e τ xs) {bor : List Nat} (hn : n ∈ bor) {A : Option Addr} {m c : Nat} (hb : β[n]? = some (.slice A m c)) :
    FrozenAt (ZB β Z bor) w (EncAll (τ.Enc (ZB β Z bor) w) xs) xs.length (.slice A m c) ∧ m = xs.length ∧ (m ≠ 0 → ∃ b, A = some ⟨b, 0, none⟩) := by
  have hob := hh.objsOK.at_ hb
  rw [ho] at hob
  obtain ⟨cs, h1, h2, _⟩ := hob
  obtain ⟨⟨A0, c0, cs', e1, r1, r2, r3, r4⟩, A1, c1, e2, r5⟩ := ownsRow_reads h1
  subst r3
  cases e1
  cases e2
  refine ⟨⟨A, c, cs', rfl, r1, r2, h2.mono fun _ _ => Ty.Enc.mono (zb_keep β Z bor w) τ, fun hne => ?_⟩, rfl, fun hne => ?_⟩
  · obtain ⟨ad, rfl, hsp, hc⟩ := r4 hne
    exact ⟨ad, rfl, hsp, .inr ⟨n, hn, _, hb, rfl⟩, hc⟩
  · obtain ⟨ad, rfl, _⟩ := r4 hne
    obtain ⟨b, rfl⟩ := r5 ad rfl
    exact ⟨b, rfl⟩

theorem BV.conc.zb {v : BV} {cs : List Value} (bor : List Nat) (h : v.conc β Z w cs) : v.conc β (ZB β Z bor) w cs := by
  have := h.mono (ext := []) (zb_keep β Z bor w)
  simpa using this

theorem view_conc (hh : HeapOK β H Z w) (bor : List Nat) (v : BV) (hbor : ∀ n ∈ (v.view H).2, n ∈ bor) {cs : List Value} (h : v.conc β Z w cs) : (v.view H).1.conc β (ZB β Z bor) w cs := by
  unfold BV.view at hbor ⊢
  split
  · split
    · rename_i n _ e τ xs ho
      simp only [ho] at hbor
      obtain ⟨A, m, c, hb, rfl⟩ := h
      exact ⟨_, rfl, (row_view hh ho (hbor n (by simp)) hb).1⟩
    · rename_i n _ e τ xs ho
      exact (frow_hd hh ho h).zb bor
    · exact h.zb bor
  · split
    · rename_i n wd lo len _ e τ xs ho
      simp only [ho] at hbor
      split
      · rename_i hw
        simp only [hw] at hbor
        have hw := Nat.eq_of_beq_eq_true hw
        subst hw
        obtain ⟨A, m, c, A', c', hb, rfl, h1, hmc, h2, h3, h4⟩ := h
        obtain ⟨⟨A0, c0, es, e0, q1, q2, q3, q4⟩, hm, _⟩ := row_view hh ho (hbor n (by simp)) hb
        cases e0
        refine ⟨_, rfl, ?_⟩
        have hlen : ((xs.drop lo).take len).length = len := by simp; omega
        rw [hlen]
        refine ⟨A', c', (es.drop (lo * τ.wd)).take (len * τ.wd), rfl, by omega, by omega, (q3.drop (fun _ _ => Ty.Enc.length τ) lo).take (fun _ _ => Ty.Enc.length τ) len, fun hne => ?_⟩
        obtain ⟨b, rfl, rfl⟩ := h4 hne
        obtain ⟨ad, e1, hsp, hz, hc⟩ := q4 (by omega)
        cases e1
        refine ⟨_, rfl, rfl, hz, fun j u hj => ?_⟩
        have : es[lo * τ.wd + j]? = some u := by
          rw [List.getElem?_take] at hj
          split at hj
          · rwa [List.getElem?_drop] at hj
          · cases hj
        have := hc _ _ this
        rw [Addr.add_zero'] at this ⊢
        rwa [Nat.zero_add] at this
      · exact h.zb bor
    · rename_i n wd lo len _ e τ xs ho
      split
      · rename_i hw
        exact (listOf_frozen hh ho (Nat.eq_of_beq_eq_true hw) h).zb bor
      · exact h.zb bor
    · exact h.zb bor
  · split
    · rename_i n len _ e τ xs ho
      simp only [ho] at hbor
      obtain ⟨A, m, c, hb, rfl, h1, hmc, h2⟩ := h
      obtain ⟨⟨A0, c0, es, e0, q1, q2, q3, q4⟩, hm, _⟩ := row_view hh ho (hbor n (by simp)) hb
      cases e0
      refine ⟨_, rfl, ?_⟩
      have hlen : (xs.take len).length = len := by simp; omega
      rw [hlen]
      refine ⟨A, c, es.take (len * τ.wd), rfl, by omega, h2, q3.take (fun _ _ => Ty.Enc.length τ) len, fun hne => ?_⟩
      obtain ⟨ad, e1, hsp, hz, hc⟩ := q4 (by omega)
      exact ⟨ad, e1, hsp, hz, fun j u hj => hc j u (by
        rw [List.getElem?_take] at hj
        split at hj
        · exact hj
        · cases hj)⟩
    · rename_i n len _ e τ xs ho
      obtain ⟨A, m, c, hb, rfl, h1, hmc, h2⟩ := h
      have hob := hh.objsOK.at_ hb
      rw [ho] at hob
      obtain ⟨A0, c0, es, e0, q1, q2, q3, q4⟩ := hob.1
      cases e0
      refine BV.conc.zb (v := .fsl e τ (xs.take len)) bor ⟨_, rfl, ?_⟩
      have hlen : (xs.take len).length = len := by simp; omega
      rw [hlen]
      refine ⟨A, c, es.take (len * τ.wd), rfl, by omega, h2, q3.take (fun _ _ => Ty.Enc.length τ) len, fun hne => ?_⟩
      obtain ⟨ad, e1, hsp, hz, hc⟩ := q4 (by omega)
      exact ⟨ad, e1, hsp, hz, fun j u hj => hc j u (by
        rw [List.getElem?_take] at hj
        split at hj
        · exact hj
        · cases hj)⟩
    · exact h.zb bor
  · exact h.zb bor

theorem view_live (v : BV) : ∀ n ∈ (v.view H).2, (objAt H n).live = true := by
  unfold BV.view
  split
  · split
    · rename_i ho; intro m hm; simp at hm; subst hm; rw [ho]; rfl
    · simp
    · simp
  · split
    · rename_i ho
      split
      · intro m hm; simp at hm; subst hm; rw [ho]; rfl
      · simp
    · split <;> simp
    · simp
  · split
    · rename_i ho; intro m hm; simp at hm; subst hm; rw [ho]; rfl
    · simp
    · simp
  · simp

theorem viewL_conc (hh : HeapOK β H Z w) (bor : List Nat) : ∀ (cs : List BV), (∀ n ∈ (viewL H cs).2, n ∈ bor) → ∀ {vs : List Value}, ConcL β Z w cs vs → ConcL β (ZB β Z bor) w (viewL H cs).1 vs
  | [], _, _, h => h
  | c :: cs, hb, _, ⟨v1, v2, e, h1, h2⟩ => ⟨v1, v2, e, view_conc hh bor c (fun n hn => hb n (by simp [viewL, hn])) h1, viewL_conc hh bor cs (fun n hn => hb n (by simp [viewL, hn])) h2⟩

theorem viewL_live : ∀ (cs : List BV), ∀ n ∈ (viewL H cs).2, (objAt H n).live = true
  | [], n, hn => by simp [viewL] at hn
  | c :: cs, n, hn => by
    simp only [viewL, List.mem_append] at hn
    rcases hn with h | h
    · exact view_live c n h
    · exact viewL_live cs n h

theorem TV.view_conc (hh : HeapOK β H Z w) (bor : List Nat) (v : TV) (hb : ∀ n ∈ (v.view H).2, n ∈ bor) {x : Value} (h : v.conc β Z w x) : (v.view H).1.conc β (ZB β Z bor) w x := by
  cases v with
  | one v => exact AM.view_conc hh bor v hb h
  | agg cs => obtain ⟨vs, e, hc⟩ := h; exact ⟨vs, e, viewL_conc hh bor cs hb hc⟩

theorem TV.view_live (v : TV) : ∀ n ∈ (v.view H).2, (objAt H n).live = true := by
  cases v with
  | one v => exact AM.view_live v
  | agg cs => exact viewL_live cs

theorem SV.conc.zb {v : SV} {x : Value} (bor : List Nat) (h : v.conc β Z w x) : v.conc β (ZB β Z bor) w x := by
  have := h.mono (ext := []) (zb_keep β Z bor w)
  simpa using this

theorem SV.view_conc (hh : HeapOK β H Z w) (bor : List Nat) (v : SV) (hb : ∀ n ∈ (v.view H).2, n ∈ bor) {x : Value} (h : v.conc β Z w x) : (v.view H).1.conc β (ZB β Z bor) w x := by
  cases v with
  | any => trivial
  | t v => exact TV.view_conc hh bor v hb h
  | tup ts => exact SV.conc.zb bor h
  | cond ts b v => exact SV.conc.zb bor h

theorem SV.view_live (v : SV) : ∀ n ∈ (v.view H).2, (objAt H n).live = true := by
  cases v with
  | any => simp [SV.view]
  | t v => exact TV.view_live v
  | tup ts => simp [SV.view]
  | cond ts b v => simp [SV.view]

theorem viewS_conc (hh : HeapOK β H Z w) (bor : List Nat) : ∀ (ro : List Bool) (vs : List SV), (∀ n ∈ (viewS H ro vs).2, n ∈ bor) → ∀ {xs : List Value}, SVs β Z w vs xs → SVs β (ZB β Z bor) w (viewS H ro vs).1 xs
  | ro, [], _, _, h => by cases ro <;> exact h
  | true :: bs, v :: vs, hb, _, ⟨x, r, e, h1, h2⟩ => ⟨x, r, e, SV.view_conc hh bor v (fun n hn => hb n (by simp [viewS, hn])) h1, viewS_conc hh bor bs vs (fun n hn => hb n (by simp [viewS, hn])) h2⟩
  | false :: bs, v :: vs, hb, _, ⟨x, r, e, h1, h2⟩ => ⟨x, r, e, h1.zb bor, viewS_conc hh bor bs vs (fun n hn => hb n (by simpa [viewS] using hn)) h2⟩
  | [], v :: vs, hb, _, ⟨x, r, e, h1, h2⟩ => ⟨x, r, e, h1.zb bor, viewS_conc hh bor [] vs (fun n hn => hb n (by simpa [viewS] using hn)) h2⟩

theorem viewS_live : ∀ (ro : List Bool) (vs : List SV), ∀ n ∈ (viewS H ro vs).2, (objAt H n).live = true
  | ro, [], n, hn => by cases ro <;> simp [viewS] at hn
  | true :: bs, v :: vs, n, hn => by
    simp only [viewS, List.mem_append] at hn
    rcases hn with h | h
    · exact SV.view_live v n h
    · exact viewS_live bs vs n h
  | false :: bs, v :: vs, n, hn => viewS_live bs vs n (by simpa [viewS] using hn)
  | [], v :: vs, n, hn => viewS_live [] vs n (by simpa [viewS] using hn)

theorem disjN_iff {ns : List Nat} : ∀ {l : List Nat}, disjN ns l = true → ∀ n ∈ l, n ∉ ns
  | [], _, n, hn => by cases hn
  | m :: r, h, n, hn => by
    unfold disjN at h
    split at h
    · cases h
    · rename_i q
      rcases List.mem_cons.1 hn with rfl | hn
      · exact fun e => by rw [memN_iff.2 e] at q; cases q
      · exact disjN_iff h n hn

theorem callVC_sat (hT : TabOK P T) {f : FuncId} {vs : List SV} {K : SV → List AObj → Prop} (h : callVC P T f vs H K) : Sat P f vs H K := by
  unfold callVC at h
  split at h
  · exact h
  · rename_i S hS
    split at h
    rename_i vs' bor hview
    generalize reach H (namesS vs') = ns at h
    dsimp only at h
    split at h
    · rename_i Hl hp hin hdis
      have hsat := hT f S hS _ _ _ h
      intro β Z w cargs hh hargs
      have p := partOf_spec hp β
      have e1 : vs' = (viewS H S.ro vs).1 := by rw [hview]
      have e2 : bor = (viewS H S.ro vs).2 := by rw [hview]
      have hlive := viewS_live (H := H) S.ro vs
      rw [← e2] at hlive
      have hargs' := viewS_conc hh bor S.ro vs (by rw [← e2]; exact fun n hn => hn) hargs
      rw [← e1] at hargs'
      have hlB : ∀ n ∈ bor, ∀ u, β[n]? = some u → ∀ b, blockOf u = some b → LiveB β H b ∧ H[n]? = some (objAt H n) := by
        intro n hn u hu b hb
        have hlt : n < H.length := by rw [← hh.len]; exact (List.getElem?_eq_some_iff.1 hu).1
        obtain ⟨v, g1, g2, _⟩ := hh.get hlt
        exact ⟨⟨n, _, u, g2, hlive n hn, hu, hb⟩, g2⟩
      have hheap : HeapOK (partB β ns) Hl (ZB β Z bor) w := by
        refine p.heap hh _ (fun b hb => .inl hb) (fun b hb => ?_) (fun b hl hb => ?_)
        · rcases hb with hb | ⟨n, hn, u, hu, hb⟩
          · exact hh.zlt b hb
          · exact LiveB.lt hh (hlB n hn u hu b hb).1
        · rcases hb with hb | ⟨n, hn, u, hu, hb⟩
          · exact hh.frz b (p.liveB hh hl) hb
          · obtain ⟨m, hm, v, g1, g2, g3, g4⟩ := p.live hh hl
            have := hh.apart m n _ _ v u b g1 (hlB n hn u hu b hb).2 g2 (hlive n hn) g3 hu g4 hb
            subst this
            exact disjN_iff hdis m hn hm
      have hloc : SVs (partB β ns) (ZB β Z bor) w (renS (fun n => idxN n ns) vs') cargs := hargs'.ren (renOK_idx (allIn_iff.1 hin))
      refine (hsat _ _ w cargs hheap hloc).mono ?_
      rintro e w' ⟨v, r, Hl', βl', Zl', rfl, hK, hr, t⟩
      obtain ⟨ext, rfl⟩ := t.ext
      split at hK
      · rename_i hcond
        simp only [Bool.or_eq_true, Bool.and_eq_true] at hcond
        rcases hcond with hb | ⟨hf1, hf2⟩
        · have hbe : bor = [] := by cases bor with | nil => rfl | cons _ _ => cases hb
          subst hbe
          have hz : ∀ b, ZB β Z [] b ↔ Z b := fun b => ⟨(fun h => by
            rcases h with h | ⟨n, hn, _⟩
            · exact h
            · cases hn), .inl⟩
          obtain ⟨tt, ren⟩ := p.back (Z' := Zl') hh t.heap.len t.keep t.live t.heap.apart (fun b hb => t.zsub b ((hz b).2 hb)) (fun b hb => by
              rcases t.znew b hb with q | q
              · exact .inl ((hz b).1 q)
              · exact .inr q) t.heap.frz t.heap.zlt t.heap.objs
          exact ⟨v, _, _, β ++ ext, Zl', rfl, hK, hr.ren (ren _), tt⟩
        · obtain ⟨tt, ren⟩ := p.back (Z' := Z) hh t.heap.len t.keep t.live t.heap.apart (fun b hb => hb) (fun b hb => .inl hb) (fun b hl hb => by
              rcases t.live b hl with q | q
              · exact hh.frz b (p.liveB hh q) hb
              · have := hh.zlt b hb; omega) (fun b hb => Nat.lt_of_lt_of_le (hh.zlt b hb) t.keep.size) (fun i o u ho hu => (t.heap.objs i o u ho hu).noF (noFO_get hf2 ho))
          exact ⟨v, _, _, β ++ ext, Z, rfl, hK, (hr.noF hf1).ren (ren _), tt⟩
      · exact hK.elim
    · exact h.elim

end

end Go.Proofs.Ythjogeodclpafaa.AM
