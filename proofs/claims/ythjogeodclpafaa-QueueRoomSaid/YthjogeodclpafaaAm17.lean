/- The abstract machine is right: states in order, results, code, functions. -/
import Derived.Test.YthjogeodclpafaaAm16
import Derived.Deep.LoopGhost
set_option linter.unusedVariables false
set_option linter.unusedSimpArgs false
namespace Go.Proofs.Ythjogeodclpafaa.AM
open Go

section
variable {P : Program} {T : Tab} {β0 : List Value} {H0 : List AObj} {Z0 : Nat → Prop} {w0 : World}

theorem Rel.sput {s : St} {a : Act} {w : World} {β : List Value} {Z : Nat → Prop} {i : Nat} {v : SV} {H : List AObj} (r1 : s.n0 = H0.length) (r2 : H0.length = β0.length) (r3 : a.defers = []) (r4 : a.tmps.size = s.N) (t : Trans β0 H0 Z0 w0 β H Z w)
    (hwf : WF (AM.sput s.sl i v)) (hs : ∀ i, (sget s.sl i).conc β Z w (a.tmps.getD i undef)) (hv : v.conc β Z w (a.tmps.getD i undef)) : Rel β0 H0 Z0 w0 { s with sl := AM.sput s.sl i v, H := H } a w := by
  refine ⟨r1, r2, r3, r4, β, Z, t, hwf, fun j => ?_⟩
  rw [sget_sput]
  split
  · rename_i e; rw [e]; exact hv
  · exact hs j

theorem matSlots_sound : ∀ (mats : List (Nat × TypeId × Ty)) {s : St} {a : Act} {w : World}, Rel β0 H0 Z0 w0 s a w → Rel β0 H0 Z0 w0 (matSlots s mats) a w
  | [], _, _, _, h => h
  | (i, e, τ) :: r, s, a, w, h => by
    unfold matSlots
    split
    · rename_i q
      refine matSlots_sound r ?_
      obtain ⟨r1, r2, r3, r4, β, Z, t, hwf, hs⟩ := h
      have t' := Trans.nil t.heap e τ
      have hwf' : WF (AM.sput s.sl i (.b (.hd s.H.length))) := by
        intro k ts g v hk
        rw [sget_sput] at hk
        split at hk
        · cases hk
        · rw [← hwf k ts g v hk]
          refine condB_congr' fun p hp => ?_
          rw [sget_sput]
          split
          · rename_i e; rw [e, q]; rfl
          · rfl
      refine Rel.sput r1 r2 r3 r4 (t.trans t') hwf' (fun i => (hs i).trans t.heap t') ?_
      have hi := hs i
      rw [q] at hi
      have hx : a.tmps.getD i undef = .slice none 0 0 := by
        have hi' : [a.tmps.getD i undef] = [.slice none 0 0] := hi
        simpa using hi'
      rw [hx]
      exact ⟨none, 0, 0, last_name t.heap _, rfl⟩
    · exact matSlots_sound r h

theorem rangeN_eq : ∀ (n i : Nat), rangeN i n = List.range' i n
  | 0, i => rfl
  | n + 1, i => by simp [rangeN, List.range'_succ, rangeN_eq n]

theorem eqList_eq : ∀ {a b : List Nat}, eqList a b = true → a = b
  | [], [], _ => rfl
  | [], _ :: _, h => by cases h
  | _ :: _, [], h => by cases h
  | a :: as, b :: bs, h => by
    simp only [eqList, Bool.and_eq_true] at h
    rw [Nat.eq_of_beq_eq_true h.1, eqList_eq h.2]

/-- A part that begins with the names of the entry is a going on from the entry. -/
theorem part_trans {β : List Value} {H : List AObj} {Z : Nat → Prop} {w : World} (t : Trans β0 H0 Z0 w0 β H Z w) (hlen : H0.length = β0.length) {ns : List Nat} {Hl : List AObj} (hp : partOf H ns = some Hl) (he : ns.take H0.length = List.range' 0 H0.length) :
    Trans β0 H0 Z0 w0 (partB β ns) Hl Z w := by
  have p := partOf_spec hp β
  have hh := t.heap
  refine ⟨?_, p.heap hh Z (fun _ h => h) hh.zlt (fun b hl => hh.frz b (p.liveB hh hl)), t.keep, t.zsub, t.znew, fun b hl => t.live b (p.liveB hh hl)⟩
  obtain ⟨ext, rfl⟩ := t.ext
  refine ⟨partB (β0 ++ ext) (ns.drop H0.length), ?_⟩
  conv => lhs; rw [← List.take_append_drop H0.length ns, he]
  unfold partB
  rw [List.map_append]
  congr 1
  apply List.ext_getElem
  · simp [hlen]
  · intro i h1 h2
    simp only [List.getElem_map, List.getElem_range', Nat.zero_add, Nat.one_mul]
    rw [List.getD_eq_getElem?_getD, List.getElem?_append_left h2, List.getElem?_eq_getElem h2]
    rfl

theorem sget_keepSl (sl : List (Nat × SV)) (ρ : Nat → Nat) (i : Nat) : ∀ (keep : List Nat), sget (keepSl sl ρ keep) i = .any ∨ (i ∈ keep ∧ sget (keepSl sl ρ keep) i = (sget sl i).ren ρ)
  | [] => .inl rfl
  | j :: r => by
    simp only [keepSl, sget]
    split
    · rename_i q
      have := Nat.eq_of_beq_eq_true q
      subst this
      exact .inr ⟨by simp, rfl⟩
    · rcases sget_keepSl sl ρ i r with h | ⟨h1, h2⟩
      · exact .inl h
      · exact .inr ⟨by simp [h1], h2⟩

theorem namesAt_mem (sl : List (Nat × SV)) {i n : Nat} : ∀ {keep : List Nat}, i ∈ keep → n ∈ (sget sl i).names → n ∈ namesAt sl keep
  | [], h, _ => by cases h
  | j :: r, h, hn => by
    simp only [namesAt, List.mem_append]
    rcases List.mem_cons.1 h with rfl | h
    · exact .inl hn
    · exact .inr (namesAt_mem sl h hn)

theorem shrink_sound {s s' : St} {keep : List Nat} {a : Act} {w : World} (h : shrink s keep = some s') (hr : Rel β0 H0 Z0 w0 s a w) : Rel β0 H0 Z0 w0 s' a w := by
  unfold shrink at h
  generalize reach s.H (rangeN 0 s.n0 ++ namesAt s.sl keep) = ns at h
  dsimp only at h
  split at h
  · rename_i Hl hp hin heq
    cases h
    obtain ⟨r1, r2, r3, r4, β, Z, t, hwf, hs⟩ := hr
    have he := eqList_eq heq
    rw [rangeN_eq, r1] at he
    have hwf' : WF (keepSl s.sl (fun n => idxN n ns) keep) := by
      intro i ts g v hi
      rcases sget_keepSl s.sl (fun n => idxN n ns) i keep with h | ⟨h1, h2⟩
      · rw [h] at hi; cases hi
      · rw [h2] at hi
        cases hv : sget s.sl i <;> rw [hv] at hi <;> cases hi
    refine ⟨r1, r2, r3, r4, partB β ns, Z, part_trans t r2 hp he, hwf', fun i => ?_⟩
    dsimp only
    rcases sget_keepSl s.sl (fun n => idxN n ns) i keep with h | ⟨h1, h2⟩
    · rw [h]; trivial
    · rw [h2]
      exact (hs i).ren (renOK_idx fun n hn => allIn_iff.1 hin n (namesAt_mem s.sl h1 hn))
  · cases h

theorem unlitL_conc {β : List Value} {Z : Nat → Prop} {w : World} : ∀ (v : List BV) (cs : List Value), ConcL β Z w v cs → ConcL β Z w (unlitL v) cs
  | [], _, h => h
  | c :: r, _, ⟨v1, v2, e, h1, h2⟩ => ⟨v1, v2, e, (unlitB_conc c v1).2 h1, unlitL_conc r v2 h2⟩

theorem unlitV_conc {β : List Value} {Z : Nat → Prop} {w : World} (v : SV) (x : Value) (h : v.conc β Z w x) : (unlitV v).conc β Z w x := by
  unfold unlitV
  split
  · exact h
  · exact h

theorem unlitH_get : ∀ (H : List AObj) (n : Nat), (unlitH H)[n]? = (H[n]?).map unlitO
  | [], n => rfl
  | o :: r, 0 => rfl
  | o :: r, n + 1 => by simpa [unlitH] using unlitH_get r n

theorem unlitH_length : ∀ (H : List AObj), (unlitH H).length = H.length
  | [] => rfl
  | o :: r => by simp [unlitH, unlitH_length r]

theorem unlitO_live (o : AObj) : (unlitO o).live = o.live := by cases o <;> rfl

theorem unlit_get {H : List AObj} {n : Nat} {o : AObj} (h : (unlitH H)[n]? = some o) : ∃ p, H[n]? = some p ∧ o = unlitO p := by
  rw [unlitH_get] at h
  cases hp : H[n]? with
  | none => rw [hp] at h; cases h
  | some p => rw [hp] at h; cases h; exact ⟨p, rfl, rfl⟩

theorem unlit_live {β : List Value} {H : List AObj} {b : Nat} (h : LiveB β (unlitH H) b) : LiveB β H b := by
  obtain ⟨n, o, v, h1, h2, h3, h4⟩ := h
  obtain ⟨p, hp, rfl⟩ := unlit_get h1
  exact ⟨n, p, v, hp, by rw [← unlitO_live]; exact h2, h3, h4⟩

theorem unlit_trans {β : List Value} {H : List AObj} {Z : Nat → Prop} {w : World} (t : Trans β0 H0 Z0 w0 β H Z w) : Trans β0 H0 Z0 w0 β (unlitH H) Z w := by
  have hh := t.heap
  refine ⟨t.ext, ⟨by rw [unlitH_length]; exact hh.len, ?_, ?_, fun b hb => hh.frz b (unlit_live hb), hh.zlt⟩, t.keep, t.zsub, t.znew, fun b hb => t.live b (unlit_live hb)⟩
  · intro n o v h1 h2
    obtain ⟨p, hp, rfl⟩ := unlit_get h1
    have := hh.objs n p v hp h2
    cases p with
    | cells t cs => obtain ⟨b, vs, e, h3, h4⟩ := this; exact ⟨b, vs, e, h3, unlitL_conc _ _ h4⟩
    | _ => exact this
  · intro n m o p u v b h1 h2 h3 h4 h5 h6 h7 h8
    obtain ⟨o', ho, rfl⟩ := unlit_get h1
    obtain ⟨p', hp, rfl⟩ := unlit_get h2
    exact hh.apart n m o' p' u v b ho hp (by rw [← unlitO_live]; exact h3) (by rw [← unlitO_live]; exact h4) h5 h6 h7 h8

theorem sget_unlit : ∀ (sl : List (Nat × SV)) (i : Nat), sget (unlitSl sl) i = unlitV (sget sl i)
  | [], i => rfl
  | (j, v) :: r, i => by
    simp only [unlitSl, sget]
    split
    · rfl
    · exact sget_unlit r i

theorem innerB_unlit (v : SV) : innerB (unlitV v) = innerB v := by
  unfold unlitV
  split <;> rfl

theorem unlit_sound {s : St} {a : Act} {w : World} (hr : Rel β0 H0 Z0 w0 s a w) : Rel β0 H0 Z0 w0 (unlitSt s) a w := by
  obtain ⟨r1, r2, r3, r4, β, Z, t, hwf, hs⟩ := hr
  refine ⟨r1, r2, r3, r4, β, Z, unlit_trans t, ?_, fun i => ?_⟩
  · intro i ts g v hi
    have hi' : unlitV (sget s.sl i) = .cond ts g v := by rw [← sget_unlit]; exact hi
    have hi2 : sget s.sl i = .cond ts g v := by
      unfold unlitV at hi'
      split at hi'
      · cases hi'
      · exact hi'
    rw [← hwf i ts g v hi2]
    refine condB_congr' fun p hp => ?_
    show innerB (sget (unlitSl s.sl) p.1) = _
    rw [sget_unlit, innerB_unlit]
  · show (sget (unlitSl s.sl) i).conc β Z w _
    rw [sget_unlit]
    exact unlitV_conc _ _ (hs i)

theorem canon_sound {s s' : St} {keep : List Nat} {mats : List (Nat × TypeId × Ty)} {a : Act} {w : World} (h : canon keep mats s = some s') (hr : Rel β0 H0 Z0 w0 s a w) : Rel β0 H0 Z0 w0 s' a w := by
  unfold canon at h
  split at h
  · rename_i q
    cases h
    exact unlit_sound (shrink_sound q (matSlots_sound mats hr))
  · cases h

/-! ### Results -/
def resOne (P : Program) (tmps : Array Value) : ResultVar → Sem Value
  | .tmp t => pure (tmps.getD t undef)
  | .cell a t => do loadVar t (← asAddr (tmps.getD a undef))

theorem resGo_sound {s : St} {a : Act} {w : World} {β : List Value} {Z : Nat → Prop} (hh : HeapOK β s.H Z w) (hs : ∀ i, (sget s.sl i).conc β Z w (a.tmps.getD i undef)) : ∀ (rs : List ResultVar) (obs : List Prop) (vs : List TV), resGo P s rs = some (obs, vs) → (∀ q ∈ obs, q) →
    ∃ xs, (rs.mapM (m := Sem) (resOne P a.tmps)).run P w = .ok xs w ∧ TVs β Z w vs xs
  | [], obs, vs, h, _ => by
    simp only [resGo, Option.some.injEq, Prod.mk.injEq] at h
    obtain ⟨_, rfl⟩ := h
    exact ⟨[], rfl, rfl⟩
  | .tmp t :: r, obs, vs, h, ho => by
    simp only [resGo] at h
    split at h
    · rename_i p v q vs' h1 h2
      cases h
      obtain ⟨xs, g1, g2⟩ := resGo_sound hh hs r q vs' h2 fun x hx => ho x (by simp [hx])
      have := open_conc h1 (fun x hx => ho x (by simp [hx])) (hs t)
      exact ⟨_ :: xs, by simp [List.mapM_cons, resOne, g1], _, xs, rfl, this, g2⟩
    · cases h
  | .cell t ty :: r, obs, vs, h, ho => by
    simp only [resGo] at h
    split at h
    · rename_i p v q vs' h1 h2
      split at h
      · rename_i o x h3
        cases h
        obtain ⟨xs, g1, g2⟩ := resGo_sound hh hs r q vs' h2 fun x hx => ho x (by simp [hx])
        have hv := open_conc h1 (fun x hx => ho x (by simp [hx])) (hs t)
        obtain ⟨y, hy, hc⟩ := load_yields (P := P) hh.objsOK ty v _ hv _ _ h3 fun x hx => ho x (by simp [hx])
        have hp : ∃ ad, a.tmps.getD t undef = .pointer (some ad) := by
          unfold loadStep at h3
          split at h3
          · split at h3
            · rename_i hcell
              split at h3
              · cases h3
                obtain ⟨b, o', _, e, _⟩ := cellsAt_conc hh.objsOK hcell (fun x hx => ho x (by simp [hx])) hv
                exact ⟨_, e⟩
              · cases h3
            · cases h3
          · cases h3
        obtain ⟨ad, hp⟩ := hp
        rw [hp] at hy
        simp only [Instr.loadAt, Instr.sureAddr, Sem.run_bind, Sem.run_pure, Result.andThen_ok] at hy
        refine ⟨y :: xs, ?_, y, xs, rfl, hc, g2⟩
        simp [List.mapM_cons, resOne, hp, asAddr, hy, g1]
      · cases h
    · cases h

def resVal : List Value → Value
  | [v] => v
  | xs => .tuple xs.toArray

theorem run_results (fn : Func) (tmps : Array Value) (w : World) (xs : List Value) (h : (fn.results.toList.mapM (m := Sem) (resOne P tmps)).run P w = .ok xs w) : (results fn tmps).run P w = .ok (resVal xs) w := by
  have he : (fn.results.mapM (m := Sem) (resOne P tmps)).run P w = .ok xs.toArray w := by
    rw [Array.mapM_eq_mapM_toList]; simp [h]
  have hr : results fn tmps = (do let vs ← fn.results.mapM (resOne P tmps); pure (if h : vs.size = 1 then vs[0] else .tuple vs)) := by
    unfold results
    congr 1
  rw [hr]
  simp only [Sem.run_bind, he, Result.andThen_ok, Sem.run_pure]
  match xs with
  | [] => rfl
  | [v] => rfl
  | v :: u :: r => simp [resVal]

theorem resSV_conc {β : List Value} {Z : Nat → Prop} {w : World} : ∀ {vs : List TV} {xs : List Value}, TVs β Z w vs xs → (resSV vs).conc β Z w (resVal xs)
  | [], xs, h => by simp only [TVs] at h; subst h; exact ⟨#[], rfl, rfl⟩
  | [v], xs, ⟨x, r, e, h1, h2⟩ => by simp only [TVs] at h2; subst e h2; exact h1
  | v :: u :: r, xs, h => by
    obtain ⟨x, r', e, h1, y, r'', e', h2, h3⟩ := h
    subst e e'
    exact ⟨(x :: y :: r'').toArray, rfl, x, y :: r'', rfl, h1, y, r'', rfl, h2, h3⟩

theorem resVC_sound {fn : Func} {s : St} {K : SV → List AObj → Prop} {a : Act} {w : World} (h : resVC P fn s K) (hr : Rel β0 H0 Z0 w0 s a w) :
    ∃ v r H' β' Z', (results fn a.tmps).run P w = .ok v w ∧ K r H' ∧ r.conc β' Z' w v ∧ Trans β0 H0 Z0 w0 β' H' Z' w := by
  obtain ⟨r1, r2, r3, r4, β, Z, t, hwf, hs⟩ := hr
  unfold resVC at h
  split at h
  · rename_i obs vs hg
    obtain ⟨ho, h⟩ := conj_iff.1 h
    obtain ⟨xs, g1, g2⟩ := resGo_sound (P := P) t.heap hs _ obs vs hg ho
    obtain ⟨β1, t1, g2⟩ := rootTs_conc vs t.heap g2
    split at h
    rename_i vs1 H1 hroot
    rw [hroot] at t1 g2
    dsimp only at t1 g2
    have t := t.trans t1
    generalize reach H1 (rangeN 0 s.n0 ++ namesT vs1) = ns at h
    dsimp only at h
    split at h
    · rename_i Hl hp hin heq
      have he := eqList_eq heq
      rw [rangeN_eq, r1] at he
      exact ⟨_, _, _, partB β1 ns, Z, run_results fn _ w xs g1, h, resSV_conc (g2.ren (renOK_idx (allIn_iff.1 hin))), part_trans t r2 hp he⟩
    · exact h.elim
  · exact h.elim

end

end Go.Proofs.Ythjogeodclpafaa.AM
