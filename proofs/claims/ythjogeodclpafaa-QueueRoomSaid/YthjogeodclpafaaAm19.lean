/- The abstract machine is right: code and functions. -/
import Derived.Test.YthjogeodclpafaaAm18
import Derived.Deep.LoopGhost
import Derived.Scope
import Derived.Control
set_option linter.unusedVariables false
set_option linter.unusedSimpArgs false
namespace Go.Proofs.Ythjogeodclpafaa.AM
open Go

section
variable {P : Program} {T : Tab} {β0 : List Value} {H0 : List AObj} {Z0 : Nat → Prop} {w0 : World}

/-! ### Code -/
def CQ (β0 : List Value) (H0 : List AObj) (Z0 : Nat → Prop) (w0 : World) (Q : AExit → St → Prop) : Exit → Act → World → Prop
  | .normal, a, w => Nx β0 H0 Z0 w0 (Q .normal) a w
  | .exit i, a, w => Nx β0 H0 Z0 w0 (Q (.exit i)) a w
  | .ret, a, w => Nx β0 H0 Z0 w0 (Q .ret) a w
  | _, _, _ => False

theorem awp_sound (hm : P.follows .mixedOrders = true) (hT : TabOK P T) (N : Anns) : ∀ (c : Code) (s : St) (Q : AExit → St → Prop) (a : Act) (w : World), awp P T N c s Q → Rel β0 H0 Z0 w0 s a w → c.wp P (CQ β0 H0 Z0 w0 Q) a w
  | .skip, s, Q, a, w, h, hr => wp_skip ⟨s, h, hr⟩
  | .region id ops draw, s, Q, a, w, h, hr => by
    unfold awp at h
    cases draw with
    | false => exact wp_region_list (seqVC_sound hT _ (fun a w h => h) ops.toList s a w h hr)
    | true => exact drawVC_sound hm hT h hr fun a w h => h
  | .seq x y, s, Q, a, w, h, hr => by
    unfold awp at h
    obtain ⟨K', hw, hk⟩ := join_sound (β0 := β0) (H0 := H0) (Z0 := Z0) (w0 := w0) h
    refine wp_seq (wp_mono (awp_sound hm hT N x s _ a w hw hr) ?_)
    intro e a' w' q
    cases e with
    | normal => obtain ⟨s', hs', hr'⟩ := hk _ _ q; exact awp_sound hm hT N y s' Q a' w' hs' hr'
    | exit i => exact q
    | ret => exact q
    | goto l => exact q
    | panic c => exact q
    | outgrown => exact q
  | .cond c x y, s, Q, a, w, h, hr => by
    obtain ⟨r1, r2, r3, r4, β, Z, t, hwf, hs⟩ := id hr
    have hc := opSV_conc hs c
    unfold awp at h
    split at h
    · rename_i ps ho
      obtain ⟨h1, h2⟩ := conj_iff.1 h
      exact wp_cond_true (one_lit (open_conc ho h1 hc)) (awp_sound hm hT N x s Q a w h2 hr)
    · rename_i ps ho
      obtain ⟨h1, h2⟩ := conj_iff.1 h
      exact wp_cond_false (one_lit (open_conc ho h1 hc)) (awp_sound hm hT N y s Q a w h2 hr)
    · rename_i ps b ho
      obtain ⟨h1, h23⟩ := conj_iff.1 h
      obtain ⟨h2, h3⟩ := brP_iff.1 h23
      exact wp_cond_split (one_bool (open_conc ho h1 hc)) (fun hb => awp_sound hm hT N x s Q a w (h2 hb) hr) (fun hb => awp_sound hm hT N y s Q a w (h3 hb) hr)
    · rename_i ps p ho
      obtain ⟨h1, h2, h3⟩ := conj_iff.1 h
      obtain ⟨b, hb, hp⟩ := open_conc ho h1 hc
      have hb' : a.eval c = .bool b := by simpa using hb
      exact wp_cond_split hb' (fun hbt => awp_sound hm hT N x s Q a w (h2 (hp hbt)) hr) (fun _ => awp_sound hm hT N y s Q a w h3 hr)
    · rename_i ps p ho
      obtain ⟨h1, h2, h3⟩ := conj_iff.1 h
      obtain ⟨b, hb, hp⟩ := open_conc ho h1 hc
      have hb' : a.eval c = .bool b := by simpa using hb
      exact wp_cond_split hb' (fun _ => awp_sound hm hT N x s Q a w h2 hr) (fun hbf => awp_sound hm hT N y s Q a w (h3 (hp hbf)) hr)
    · exact h.elim
  | .block id body, s, Q, a, w, h, hr => by
    refine wp_block (wp_mono (awp_sound hm hT N body s _ a w h hr) ?_)
    intro e a' w' q
    cases e with
    | normal => exact q
    | exit i =>
      obtain ⟨s', hs', hr'⟩ := q
      simp only [Exit.inBlock]
      simp only [AExit.inBlock] at hs'
      split at hs'
      · rename_i hq
        rw [if_pos (Nat.eq_of_beq_eq_true hq)]
        exact ⟨s', hs', hr'⟩
      · rename_i hq
        rw [if_neg (fun e => by rw [e, Nat.beq_refl] at hq; cases hq)]
        exact ⟨s', hs', hr'⟩
    | ret => exact q
    | goto l => exact q
    | panic c => exact q
    | outgrown => exact q
  | .loop body, s, Q, a, w, h, hr => by
    unfold awp at h
    obtain ⟨α, S, I, μ, keep, mats, ⟨x0, hx0, hI0⟩, hround⟩ : LoopVC (awp P T N body) s Q := by
      split at h
      · rename_i A _; exact ⟨A.α, A.S, A.I, A.μ, A.keep, A.mats, h.1, fun x hx => by have := h.2 x hx; rwa [frcSt_eq] at this⟩
      · exact h
    refine wp_loop_ghost (fun n a w => ∃ x, μ x = n ∧ I x ∧ Rel β0 H0 Z0 w0 (S x) a w) (μ x0) ⟨x0, rfl, hI0, canon_sound (atS_spec hx0) hr⟩ ?_
    rintro n a' w' ⟨x, rfl, hI, hrx⟩
    refine wp_mono (awp_sound hm hT N body (S x) _ a' w' (hround x hI) hrx) ?_
    intro e a'' w'' q
    cases e with
    | normal =>
      obtain ⟨s', ⟨y, hy, hIy, hlt⟩, hr'⟩ := q
      exact ⟨μ y, hlt, y, rfl, hIy, canon_sound (atS_spec hy) hr'⟩
    | exit i => exact q
    | ret => exact q
    | goto l => exact q
    | panic c => exact q
    | outgrown => exact q
  | .exit id, s, Q, a, w, h, hr => wp_exit ⟨s, h, hr⟩
  | .ret, s, Q, a, w, h, hr => wp_ret ⟨s, h, hr⟩
  | .rangeFunc _ _ _ _, _, _, _, _, h, _ => by unfold awp at h; exact h.elim
  | .scope c, s, Q, a, w, h, hr => wp_scope_straight (wp_mono (awp_sound hm hT N c s Q a w h hr) (by
    intro e a' w' q
    cases e with
    | goto l => exact q.elim
    | normal => exact q
    | exit i => exact q
    | ret => exact q
    | panic c => exact q
    | outgrown => exact q))
  | .label l, s, Q, a, w, h, hr => wp_label ⟨s, h, hr⟩
  | .goto _, _, _, _, _, h, _ => by unfold awp at h; exact h.elim
  | .refuse _, _, _, _, _, h, _ => by unfold awp at h; exact h.elim

theorem SVs.get {β : List Value} {Z : Nat → Prop} {w : World} : ∀ {vs : List SV} {xs : List Value}, SVs β Z w vs xs → ∀ (i : Nat) (v : SV), vs[i]? = some v → ∃ x, xs[i]? = some x ∧ v.conc β Z w x
  | [], _, _, i, v, h => by simp at h
  | u :: r, _, ⟨x, r', e, h1, h2⟩, 0, v, h => by subst e; simp at h; subst h; exact ⟨x, rfl, h1⟩
  | u :: r, _, ⟨x, r', e, h1, h2⟩, i + 1, v, h => by subst e; simpa using SVs.get h2 i v (by simpa using h)

theorem SVs.length {β : List Value} {Z : Nat → Prop} {w : World} : ∀ {vs : List SV} {xs : List Value}, SVs β Z w vs xs → xs.length = vs.length
  | [], _, h => by simp only [SVs] at h; subst h; rfl
  | _ :: _, _, ⟨x, r', e, _, h2⟩ => by subst e; simp [SVs.length h2]

theorem sget_argSl (j : Nat) : ∀ (vs : List SV) (i : Nat) (acc : List (Nat × SV)), (∀ k u, (k, u) ∈ acc → k < i) → sget (argSl i vs acc) j = (if i ≤ j then (match vs[j - i]? with | some v => v.plain | none => .any) else sget acc j)
  | [], i, acc, hacc => by
    simp only [argSl]
    split
    · rename_i hij
      simp only [List.getElem?_nil]
      have : ∀ (l : List (Nat × SV)), (∀ k u, (k, u) ∈ l → k < i) → sget l j = .any := by
        intro l
        induction l with
        | nil => intro _; rfl
        | cons p r ih =>
          obtain ⟨k, u⟩ := p
          intro h
          simp only [sget]
          have hk := h k u (by simp)
          split
          · rename_i q; have := Nat.eq_of_beq_eq_true q; omega
          · exact ih fun k' u' hm => h k' u' (by simp [hm])
      exact this acc hacc
    · rfl
  | v :: r, i, acc, hacc => by
    simp only [argSl]
    rw [sget_argSl j r (i + 1) ((i, v.plain) :: acc) (by
      intro k u hm
      rcases List.mem_cons.1 hm with e | hm
      · cases e; omega
      · have := hacc k u hm; omega)]
    by_cases h1 : i + 1 ≤ j
    · rw [if_pos h1, if_pos (by omega)]
      rw [show j - i = (j - (i + 1)) + 1 by omega]
      rfl
    · rw [if_neg h1]
      by_cases h2 : i ≤ j
      · have : i = j := by omega
        subst this
        rw [if_pos h2, Nat.sub_self]
        simp [sget]
      · rw [if_neg h2]
        simp only [sget]
        split
        · rename_i q; have := Nat.eq_of_beq_eq_true q; omega
        · rfl

/-- **A function whose code meets its condition meets its contract.** -/
theorem fn_sat (hm : P.follows .mixedOrders = true) (hT : TabOK P T) {N : Anns} {f : FuncId} {fn : Func} (hf : P.funcs[f]? = some fn) {args : List SV} {H : List AObj} {K : SV → List AObj → Prop} (h : fnVC P T N fn args H K) : Sat P f args H K := by
  unfold fnVC at h
  split at h
  case h_2 => exact h.elim
  rename_i body hb
  intro β Z w cargs hh hargs
  have hl := hargs.length
  refine calls_of_wp hf hb (wp_mono (awp_sound (β0 := β) (H0 := H) (Z0 := Z) (w0 := w) hm hT N body _ _ _ w h ?_) ?_)
  · have hsg : ∀ i, sget (argSl 0 args []) i = (match args[i]? with | some v => v.plain | none => .any) := fun i => by
      rw [sget_argSl i args 0 [] (by simp), if_pos (Nat.zero_le _), Nat.sub_zero]
    have hwf : WF (argSl 0 args []) := by
      intro i ts g v hi
      rw [hsg] at hi
      split at hi
      · rename_i u _; exact absurd hi (u.plain_ne ts g v)
      · cases hi
    refine ⟨rfl, hh.len.symm, rfl, by simp [initSt, hl], β, Z, Trans.refl hh, hwf, fun i => ?_⟩
    show (sget (argSl 0 args []) i).conc β Z w _
    rw [hsg]
    cases hi : args[i]? with
    | none => trivial
    | some v =>
      obtain ⟨x, hx, hc⟩ := hargs.get i v hi
      have hlt : i < cargs.length := (List.getElem?_eq_some_iff.1 hx).1
      have : (cargs.toArray ++ Array.replicate (fn.ntmps - cargs.toArray.size) undef).getD i undef = x := by
        rw [Array.getD_eq_getD_getElem?, Array.getElem?_append_left (by simpa using hlt)]
        simp [hx]
      rw [this]; exact plain_conc hc
  · intro e a' w' q
    have fin : ∀ s', resVC P fn s' K → Rel β H Z w s' a' w' → a'.defers = [] ∧ ∃ v, (results fn a'.tmps).run P w' = .ok v w' ∧ ∃ v' r H' β' Z', (Ending.returned v) = .returned v' ∧ K r H' ∧ r.conc β' Z' w' v' ∧ Trans β H Z w β' H' Z' w' := by
      intro s' hs' hr'
      obtain ⟨v, r, H', β', Z', g1, g2, g3, g4⟩ := resVC_sound hs' hr'
      exact ⟨hr'.2.2.1, v, g1, v, r, H', β', Z', rfl, g2, g3, g4⟩
    cases e with
    | normal => obtain ⟨s', hs', hr'⟩ := q; exact fin s' hs' hr'
    | ret => obtain ⟨s', hs', hr'⟩ := q; exact fin s' hs' hr'
    | exit i => obtain ⟨s', hs', hr'⟩ := q; exact hs'.elim
    | goto l => exact q
    | panic c => exact q.elim
    | outgrown => exact q.elim

end

end Go.Proofs.Ythjogeodclpafaa.AM
