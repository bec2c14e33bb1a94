/- Appends to prefixes, slices of buffers, slices of two objects: right; all the operations on capacities together. -/
import Derived.Test.YthjogeodclpafaaAmB
import Derived.Lib.Overlaps
set_option linter.unusedVariables false
set_option linter.unusedSimpArgs false
namespace Go.Proofs.Ythjogeodclpafaa.AM
open Go

section
variable {P : Program} {β : List Value} {Z : Nat → Prop} {w : World} {H : List AObj}

/-- What an append takes over: 'm' elements whose cells are 'nv'. -/
structure News (P : Program) (w : World) (t t' e : TypeId) (inf : TypeInfo) (x : Value) (m : Nat) (nv : List Value) : Prop where
  fits : ∀ ty base sLen sCap w', sLen + m ≤ sCap → (∀ a, base = some a → (storeCells (a.add (sLen * inf.size)) nv).run P w = .ok () w') → (base = none → w' = w) →
    (Builtin.append_ #[t, t'] ty #[.slice base sLen sCap, x]).run P w = .ok (.slice base (sLen + m) sCap) w'
  grow : ∀ (ty : TypeId) (base : Option Addr) (sLen sCap : Nat) (olds : List Value) (z : Value), inf.zero = some z → sLen ≤ sCap → sCap < sLen + m → olds.length = sLen * inf.size → (∀ b, base = some b → ∀ j v, olds[j]? = some v → w.cell? (b.add j) = some v) →
    (base = none → sLen = 0 ∧ sCap = 0) → (sLen + m) * inf.bytes ≤ 140737488355328 → sLen + m ≤ 140737488355328 →
    (Builtin.append_ #[t, t'] ty #[.slice base sLen sCap, x]).run P w = .ok (.slice (some ⟨w.heap.size, 0, none⟩) (sLen + m) (grownCap w (sLen + m) sCap e))
      (w.drew.alloc (.cells (olds.toArray ++ nv.toArray ++ Builtin.zeroCells ((inf.zero.getD undef).cells) (grownCap w (sLen + m) sCap e - (sLen + m))) e))

theorem news_of (hh : HeapOK β H Z w) {t t' e : TypeId} {τ : Ty} {bytes : Nat} (he : elemOf? P t = some (e, τ, bytes)) (hz : zeroOK P e (aggOf P e) τ = true) {x : BV} {obs : List Prop} {zs : List τ.D} (h : newsOf P H τ bytes t t' x = some (obs, zs)) (ho : ∀ q ∈ obs, q)
    {b : Value} (hb : x.conc β Z w [b]) : ∃ inf nv, P.info? e = some inf ∧ News P w t t' e inf b zs.length nv ∧ EncAll (τ.Enc Z w) zs nv := by
  obtain ⟨hu, _, inf, hin, hsz, hne, hby⟩ := elemOf_spec he
  obtain ⟨i', z, hi', hiz, hzr, _, hzc, hze⟩ := zeroOK_spec (Z := Z) (w := w) hz
  rw [hin] at hi'; cases hi'
  have hzs : z.cells.size = τ.wd := by rw [← Array.length_toList, hzc, Ty.Enc.length _ hze]
  unfold newsOf at h
  split at h
  · rename_i htt
    have htt := Nat.eq_of_beq_eq_true htt
    subst htt
    split at h
    · rename_i ys hl
      cases h
      obtain ⟨B, c2, nv, rfl, q1, q2, q3, q4⟩ := listOf_conc hh.objsOK hl hb
      have hnl := EncAll.length (fun _ _ => Ty.Enc.length τ) q3
      rw [← hsz] at hnl
      refine ⟨inf, nv, hin, ⟨?_, ?_⟩, q3⟩
      · intro ty base sLen sCap w' hroom hst hnone
        have hfc : (Builtin.firstCells inf.size zs.length (.slice B zs.length c2)).run P w = .ok nv.toArray w := by
          cases B with
          | none =>
            have : zs = [] := by
              cases zs with
              | nil => rfl
              | cons y ys => obtain ⟨ad, e1, _⟩ := q4 (by simp); cases e1
            subst this
            have : nv = [] := q3
            subst this
            simp [Builtin.firstCells]
          | some ad =>
            refine run_firstCells_some (P := P) w inf.size _ ad _ _ _ hnl fun j u hj => ?_
            by_cases hy : zs.length = 0
            · have : nv = [] := List.eq_nil_of_length_eq_zero (by rw [hnl, hy, Nat.zero_mul])
              subst this; simp at hj
            · obtain ⟨ad', e1, _, hc⟩ := q4 hy
              cases e1
              exact hc j u hj
        cases base with
        | none =>
          have := hnone rfl; subst this
          simp [Builtin.append_, run_underlying hu, sizeOf, typeInfo, hin, Builtin.lenOf, hroom, hfc]
        | some a =>
          have := hst a rfl
          simp [Builtin.append_, run_underlying hu, sizeOf, typeInfo, hin, Builtin.lenOf, hroom, hfc, this]
      · intro ty base sLen sCap olds z' hz' hle hg hol holds hbn hb1 hb2
        have hy : zs.length ≠ 0 → B ≠ none := fun hy e => by
          obtain ⟨ad', e1, _⟩ := q4 hy; rw [e] at e1; cases e1
        cases base with
        | none =>
          obtain ⟨rfl, rfl⟩ := hbn rfl
          have ho0 : olds = [] := List.eq_nil_of_length_eq_zero (by simpa using hol)
          subst ho0
          cases B with
          | none => exact absurd rfl (hy (by omega))
          | some ad =>
            obtain ⟨ad', e1, _, hc⟩ := q4 (by omega)
            cases e1
            have := run_append_nil (P := P) w t ty e inf z hu hin hiz ad zs.length c2 nv hnl hc (by omega) (by omega) (by simp only [Nat.zero_add] at hb1; omega)
            rw [Nat.zero_add, hiz]
            simpa using this
        | some bb =>
          cases B with
          | none => exact absurd rfl (hy (by omega))
          | some ad =>
            obtain ⟨ad', e1, _, hc⟩ := q4 (by omega)
            cases e1
            have := run_append_grow (P := P) w t ty e inf z hu hin hiz bb sLen sCap olds hol (holds bb rfl) ad zs.length c2 nv hnl hc hg (by omega) (growslice_fits hg hb1)
            rw [hiz]
            exact this
    · cases h
  · split at h
    · rename_i k k' n htn
      cases h
      have hn0 : 0 ≤ n := ho _ (.head _)
      have hn1 : n * (bytes : Int) ≤ 140737488355328 := ho _ (.tail _ (.head _))
      have hn2 : n ≤ 140737488355328 := ho _ (.tail _ (.tail _ (.head _)))
      have hb' : b = .int k' n := by simpa [BV.conc] using hb
      subst hb'
      obtain ⟨q, rfl⟩ := Int.eq_ofNat_of_zero_le hn0
      have hq1 : q * inf.bytes ≤ 140737488355328 := by
        have : ((q * inf.bytes : Nat) : Int) ≤ 140737488355328 := by rw [hby, Int.natCast_mul]; exact hn1
        omega
      have hw : IntKind.i64.wrap (q : Int) = q := by rw [IntKind.wrap_i64]; omega
      have h48i : ¬ (281474976710656 < (q : Int) * (inf.bytes : Int)) := by rw [← Int.natCast_mul]; omega
      have hneg : ¬ ((q : Int) < 0) := by omega
      have hzz := zeros_enc (e := e) (Z := Z) (w := w) hzs hzc hze q
      simp only [Int.toNat_natCast, List.length_replicate]
      refine ⟨inf, (Builtin.zeroCells z.cells q).toList, hin, ⟨?_, ?_⟩, hzz⟩
      · intro ty base sLen sCap w' hroom hst hnone
        have hap : (if q * inf.size = 0 then pure #[] else do pure (Builtin.zeroCells (← zeroValue e).cells q) : Sem (Array Value)).run P w = .ok (Builtin.zeroCells z.cells q) w := by
          split
          · rename_i h0
            have hq : q = 0 := by
              rcases Nat.mul_eq_zero.1 h0 with h | h
              · exact h
              · exact absurd h hne
            subst hq
            simp [Builtin.zeroCells]
          · simp [hzr]
        cases base with
        | none =>
          have := hnone rfl; subst this
          by_cases h0 : q * inf.size = 0
          · rw [if_pos h0] at hap
            simp [Builtin.append_, run_underlying hu, run_underlying htn, sizeOf, typeInfo, hin, asInt, asIntOf, hw, hneg, h48i, hroom, h0]
          · rw [if_neg h0] at hap
            simp [Builtin.append_, run_underlying hu, run_underlying htn, sizeOf, typeInfo, hin, asInt, asIntOf, hw, hneg, h48i, hroom, h0, hzr]
        | some a =>
          have hst' := hst a rfl
          by_cases h0 : q * inf.size = 0
          · rw [if_pos h0] at hap
            have hq : q = 0 := by
              rcases Nat.mul_eq_zero.1 h0 with h | h
              · exact h
              · exact absurd h hne
            subst hq
            have hz0 : (Builtin.zeroCells z.cells 0).toList = [] := by simp [Builtin.zeroCells]
            rw [hz0] at hst'
            simp [Builtin.append_, run_underlying hu, run_underlying htn, sizeOf, typeInfo, hin, asInt, asIntOf, show IntKind.i64.wrap 0 = 0 from by rw [IntKind.wrap_i64]; rfl, show sLen ≤ sCap by omega, hst']
          · rw [if_neg h0] at hap
            simp [Builtin.append_, run_underlying hu, run_underlying htn, sizeOf, typeInfo, hin, asInt, asIntOf, hw, hneg, h48i, hroom, h0, hzr, hst']
      · intro ty base sLen sCap olds z' hz' hle hg hol holds hbn hb1 hb2
        have hfc : (Builtin.firstCells inf.size sLen (.slice base sLen sCap)).run P w.drew = .ok olds.toArray w.drew := by
          cases base with
          | none =>
            obtain ⟨rfl, rfl⟩ := hbn rfl
            have ho0 : olds = [] := List.eq_nil_of_length_eq_zero (by simpa using hol)
            subst ho0
            simp [Builtin.firstCells]
          | some bb => exact run_firstCells_some (P := P) w.drew inf.size _ bb _ _ _ hol (holds bb rfl)
        have := Lib.run_append_grow_zeros (P := P) w t t' ty e inf z k' k hu htn hin hiz base sLen sCap olds hfc q (by omega) (by omega) hg (by omega) (by omega) (growslice_fits hg hb1)
        rw [hiz]
        simpa using this
    · cases h

/-- The row that an append has made. -/
theorem grown_row {e : TypeId} {τ : Ty} {z : Value} (hzs : z.cells.size = τ.wd) (hzc : z.cells.toList = τ.zcells) (hze : ∀ w, τ.Enc Z w τ.zero τ.zcells) {olds nv : List Value} {xs zs : List τ.D} (h1 : EncAll (τ.Enc Z w) xs olds) (h2 : EncAll (τ.Enc Z w) zs nv) (hm : xs.length + zs.length ≤ maxLen) (old : Nat)
    (hh : HeapOK β H Z w) : let w' := w.drew.alloc (.cells (olds.toArray ++ nv.toArray ++ Builtin.zeroCells z.cells (grownCap w (xs.length + zs.length) old e - (xs.length + zs.length))) e)
    let v := Value.slice (some ⟨w.heap.size, 0, none⟩) (xs.length + zs.length) (grownCap w (xs.length + zs.length) old e)
    Trans β H Z w (β ++ [v]) (H ++ [.row e τ (xs ++ zs)]) Z w' := by
  intro w' v
  have k : Keep (fun _ => False) w w' := ⟨rfl, rfl, rfl, by simp [w'], fun b hb _ => heap_alloc_old w.drew _ _ hb⟩
  have kz : ZKeep Z Z w w' := hh.zkeep (k.mono fun _ h => h.elim) fun _ h => h
  have l1 := EncAll.length (fun _ _ => Ty.Enc.length τ) h1
  have l2 := EncAll.length (fun _ _ => Ty.Enc.length τ) h2
  have hge := grownCap_ge w (xs.length + zs.length) old e
  have hcm := grownCap_le_maxLen w (xs.length + zs.length) old e hm
  have hE := EncAll.app h1 h2
  have hl : (olds ++ nv).length = (xs ++ zs).length * τ.wd := EncAll.length (fun _ _ => Ty.Enc.length τ) hE
  have hcl : (olds.toArray ++ nv.toArray ++ Builtin.zeroCells z.cells (grownCap w (xs.length + zs.length) old e - (xs.length + zs.length))).toList = (olds ++ nv) ++ (Builtin.zeroCells z.cells (grownCap w (xs.length + zs.length) old e - (xs.length + zs.length))).toList := by simp
  refine Trans.new hh v _ k (fun b _ hb => ?_) ⟨olds ++ nv, ⟨hl, .inr ⟨w.heap.size, _, _, by rw [List.length_append], Nat.zero_le _, heap_alloc_new w.drew _, by rw [List.length_append]; exact hge, hcm, ?_, ?_⟩⟩, hE.mono fun _ _ => Ty.Enc.mono kz _, ?_⟩
  · cases hb
    exact ⟨Nat.le_refl _, by simp [w']⟩
  · have hzl : (Builtin.zeroCells z.cells (grownCap w (xs.length + zs.length) old e - (xs.length + zs.length))).toList.length = (grownCap w (xs.length + zs.length) old e - (xs.length + zs.length)) * τ.wd := by rw [Array.length_toList, size_zeroCells, hzs]
    rw [← Array.length_toList, hcl, List.length_append, hl, hzl, ← Nat.add_mul, List.length_append]
    congr 1
    omega
  · rw [hcl, ← hl, List.take_left]
  · intro g n cap cur t o e1 hg
    simp only [v, Value.slice.injEq] at e1
    obtain ⟨e2, _⟩ := e1
    cases e2
    have := heap_alloc_new w.drew (.cells (olds.toArray ++ nv.toArray ++ Builtin.zeroCells z.cells (grownCap w (xs.length + zs.length) old e - (xs.length + zs.length))) e)
    rw [show w'.heap[w.heap.size]? = _ from this] at hg
    cases hg
    refine ⟨List.replicate (grownCap w (xs.length + zs.length) old e - (xs.length + zs.length)) τ.zero, ?_⟩
    rw [hcl, ← hl, List.drop_left]
    exact zeros_enc (e := e) hzs hzc (hze _) _

theorem appendK_does (hh : HeapOK β H Z w) (ts : Array TypeId) (ty : TypeId) (s x : BV) (a b : Value) (ha : s.conc β Z w [a]) (hb : x.conc β Z w [b]) {K : SV → List AObj → Prop} (h : appendK P H ts.toList s x K) : KDoes P β H Z w (Builtin.append_ ts ty #[a, b]) K := by
  unfold appendK at h
  split at h
  · rename_i t t' hts
    have hts' : ts = #[t, t'] := by rw [← Array.toArray_toList (xs := ts), hts]
    subst hts'
    split at h
    · rename_i e τ bytes he
      obtain ⟨hu, _, inf0, hin0, hsz, hne, hby⟩ := elemOf_spec he
      split at h
      · rename_i obs zs hz hnw
        obtain ⟨ho, h⟩ := conjI h
        obtain ⟨inf, nv, hin, hnews, hE⟩ := news_of hh he hz hnw ho hb
        rw [hin0] at hin; cases hin
        obtain ⟨i', z, hi', hiz, hzr, _, hzc, hze0⟩ := zeroOK_spec (Z := Z) (w := w) hz
        rw [hin0] at hi'; cases hi'
        have hzs : z.cells.size = τ.wd := by rw [← Array.length_toList, hzc, Ty.Enc.length _ hze0]
        have hze : ∀ w, τ.Enc Z w τ.zero τ.zcells := fun w => zero_enc τ
        have hnl := EncAll.length (fun _ _ => Ty.Enc.length τ) hE
        split at h
        · obtain ⟨hob, hK⟩ := conjI h
          have ha' : a = .slice none 0 0 := by simpa [BV.conc] using ha
          subst ha'
          have hb1 : ((zs.length : Nat) : Int) * bytes ≤ 140737488355328 := hob _ (.head _)
          have hb2 : ((zs.length : Nat) : Int) ≤ 140737488355328 := hob _ (.tail _ (.head _))
          have hb1' : zs.length * inf0.bytes ≤ 140737488355328 := by
            have : ((zs.length * inf0.bytes : Nat) : Int) ≤ 140737488355328 := by rw [hby, Int.natCast_mul]; exact hb1
            omega
          by_cases h0 : zs.length = 0
          · have : zs = [] := List.eq_nil_of_length_eq_zero h0
            subst this
            exact ⟨_, w, _, _, β ++ [.slice none 0 0], Z, hnews.fits ty none 0 0 w (by simp) (fun a ha => by cases ha) (fun _ => rfl), hK, ⟨_, _, _, last_name hh _, rfl⟩, Trans.nil hh e τ⟩
          · have hg := hnews.grow ty none 0 0 [] z hiz (Nat.le_refl _) (by omega) (by simp) (fun b hb => by cases hb) (fun _ => ⟨rfl, rfl⟩) (by simpa using hb1') (by omega)
            have t := grown_row (e := e) hzs hzc hze (xs := []) (olds := []) rfl hE (by simp [maxLen]; omega) 0 hh
            rw [hiz] at hg
            exact ⟨_, _, _, _, _, Z, hg, hK, ⟨_, _, _, last_name hh _, rfl⟩, by simpa using t⟩
        · split at h
          · rename_i n len hn hlen
            obtain ⟨A, m, c, l, hbn, rfl⟩ := name_conc hn ha
            obtain ⟨H1, e', ys, k, h1, t1, hob, hlH, hlo⟩ := openK_sound hh (wd_pos he) h
            have hl : l = len := by
              have hH := hh.objsOK
              unfold headLen at hlen
              split at hlen
              · cases hn
                obtain ⟨A', m', c', hb', ee⟩ := ha
                cases ee
                rw [hbn] at hb'; cases hb'
                exact (header_at hH hbn hlen).1
              · cases hlen; cases hn; obtain ⟨_, _, _, _, ee, _⟩ := ha; cases ee; rfl
              · cases hlen; cases hn; obtain ⟨_, _, _, _, ee, _⟩ := ha; cases ee; rfl
              · cases hlen
            subst hl
            split at h1
            · rename_i hee
              have hee := Nat.eq_of_beq_eq_true hee
              subst hee
              obtain ⟨hle, h1, h2⟩ := conjI h1
              have hle : l ≤ ys.length := hle _ (.head _)
              have hobj := t1.heap.objsOK.at_ hbn
              rw [hob] at hobj
              have hreads := buf_reads hobj
              obtain ⟨A', e1, hk1, hk2, hr, hA⟩ := hreads
              cases e1
              have hE1 : EncAll (τ.Enc Z w) zs nv := hE
              by_cases hroom : l + zs.length ≤ ys.length
              · have hov : overw H1 n l τ zs = some ([l + zs.length ≤ ys.length], H1.set n (.buf e τ (spl ys l zs) m)) := by
                  unfold overw; rw [hob]; dsimp only
                  split
                  · rename_i q _; cases q; rfl
                  · rename_i q _; exact absurd rfl q
                obtain ⟨w', t2, hnil, hnone, hrun⟩ := overw_sound (P := P) t1.heap hov (fun q hq => by simp at hq; rw [hq]; exact hroom) hE1 hbn
                refine ⟨_, w', _, _, β, Z, hnews.fits ty A l ys.length w' hroom (fun a ha => ?_) (fun hA => hnil (hnone hA)), h1 hroom, ⟨A, m, ys.length, hbn, rfl, hroom, hk2⟩, t1.trans t2⟩
                obtain ⟨g, e2, hr2⟩ := hrun a ha
                subst e2
                rw [Addr.add_zero', Nat.zero_add, hsz]
                exact hr2
              · obtain ⟨hob2, hK⟩ := conjI (h2 (by omega))
                have hb1 : ((l + zs.length : Nat) : Int) * bytes ≤ 140737488355328 := hob2 _ (.head _)
                have hb2 : ((l + zs.length : Nat) : Int) ≤ 140737488355328 := hob2 _ (.tail _ (.head _))
                have hb1' : (l + zs.length) * inf0.bytes ≤ 140737488355328 := by
                  have : (((l + zs.length) * inf0.bytes : Nat) : Int) ≤ 140737488355328 := by rw [hby, Int.natCast_mul]; exact hb1
                  omega
                have hp := ReadsL.pre hr hA hle
                obtain ⟨A2, c2, olds, e2, p1, p2, p3, p4⟩ := hp
                simp only [Value.slice.injEq] at e2
                obtain ⟨rfl, _, rfl⟩ := e2
                have htl : (ys.take l).length = l := by simp; omega
                have hol := EncAll.length (fun _ _ => Ty.Enc.length τ) p3
                have hAn : A = none → ys.length = 0 := by
                  intro hA0
                  obtain ⟨_, _, _, e3, _, _, _, h4⟩ := hr
                  cases e3
                  rcases Nat.eq_zero_or_pos ys.length with h | h
                  · exact h
                  · obtain ⟨ad, e4, _⟩ := h4 (by omega); rw [hA0] at e4; cases e4
                have hg := hnews.grow ty A l ys.length olds z hiz hle (by omega) (by rw [hol, htl, hsz]) (fun b hb j v hj => by
                  by_cases h0 : l = 0
                  · have : olds = [] := List.eq_nil_of_length_eq_zero (by rw [hol, htl, h0, Nat.zero_mul])
                    subst this; simp at hj
                  · obtain ⟨ad, e4, _, hc⟩ := p4 (by rw [htl]; exact h0)
                    rw [hb] at e4; cases e4
                    exact hc j v hj) (fun hA0 => ⟨by have := hAn hA0; omega, hAn hA0⟩) hb1' (by omega)
                have t := grown_row (e := e) hzs hzc hze p3 hE1 (by rw [htl]; simp [maxLen]; omega) ys.length t1.heap
                rw [htl] at t
                rw [hiz] at hg
                exact ⟨_, _, _, _, _, Z, hg, hK, ⟨_, _, _, last_name t1.heap _, rfl⟩, t1.trans t⟩
            · exact h1.elim
          · exact h.elim
      · exact h.elim
    · exact h.elim
  · exact h.elim

theorem run_bounds' (isS : Bool) (len cap : Nat) (lo hi : Option Value) (l h : Int) (hl : (lo = none ∧ l = (0 : Nat)) ∨ ∃ k, lo = some (.int k l)) (hh : (hi = none ∧ h = len) ∨ ∃ k, hi = some (.int k h))
    (h1 : 0 ≤ h) (h2 : h ≤ cap) (h3 : 0 ≤ l) (h4 : l ≤ h) : (Instr.sliceBounds isS len cap lo hi none).run P w = .ok (l.toNat, h.toNat, cap) w := by
  have hhn : ((h.toNat : Nat) : Int) = h := by omega
  rcases hh with ⟨rfl, rfl⟩ | ⟨k, rfl⟩ <;> rcases hl with ⟨rfl, rfl⟩ | ⟨k', rfl⟩
  · simp [Instr.sliceBounds]
  · simp only [Instr.sliceBounds, Sem.run_bind, Sem.run_pure, Result.andThen_ok, run_sliceBound (P := P) w k' l len _ h3 (by omega)]
    simp
  · simp only [Instr.sliceBounds, Sem.run_bind, Sem.run_pure, Result.andThen_ok, run_sliceBound (P := P) w k h cap _ h1 (by omega)]
    simp
  · simp only [Instr.sliceBounds, Sem.run_bind, Sem.run_pure, Result.andThen_ok, run_sliceBound (P := P) w k h cap _ h1 (by omega), run_sliceBound (P := P) w k' l h.toNat _ h3 (by omega)]

theorem head_conc (hh : HeapOK β H Z w) {v : BV} {n len : Nat} (hn : nameOf v = some n) (hl : headLen H v = some len) {x : Value} (hv : v.conc β Z w [x]) : ∃ A m c, β[n]? = some (.slice A m c) ∧ x = .slice A len c := by
  unfold headLen at hl
  split at hl
  · cases hn
    obtain ⟨A', m', c', hb', ee⟩ := hv
    cases ee
    have := (header_at hh.objsOK hb' hl).1
    subst this
    exact ⟨_, _, _, hb', rfl⟩
  · cases hl; cases hn; obtain ⟨_, _, _, hb, ee, _⟩ := hv; cases ee; exact ⟨_, _, _, hb, rfl⟩
  · cases hl; cases hn; obtain ⟨_, _, _, hb, ee, _⟩ := hv; cases ee; exact ⟨_, _, _, hb, rfl⟩
  · cases hl

theorem bslice_does (hh : HeapOK β H Z w) (t : TypeId) (x : BV) (lo hi : Option TV) (a : Value) (l h : Option Value) (ha : x.conc β Z w [a]) (hl : OptConc β Z w lo l) (hhi : OptConc β Z w hi h) {K : SV → List AObj → Prop} (hK : bsliceK P H t x lo hi K) :
    KDoes P β H Z w (Instr.sliceAt t a l h none) K := by
  unfold bsliceK at hK
  split at hK
  · rename_i e τ by_ n m he hn hm
    obtain ⟨hu, _, inf, hin, hsz, _, _⟩ := elemOf_spec he
    split at hK
    · rename_i e' a' ys k lv hv ho hlo hhi'
      split at hK
      · rename_i q _
        subst q
        obtain ⟨A, m1, c, hb, rfl⟩ := head_conc hh hm hn ha
        have hob := hh.objsOK.at_ hb
        rw [ho] at hob
        obtain ⟨A', e1, q1, q2, hr, hA⟩ := buf_reads hob
        cases e1
        have bx := boundOf_run' hlo hl
        have bY := boundOf_run' hhi' hhi
        have run : 0 ≤ hv ∧ hv ≤ ys.length → 0 ≤ lv ∧ lv ≤ hv → (Instr.sliceAt t (.slice A n ys.length) l h none).run P w = .ok (.slice (if ys.length = lv.toNat then A else A.map (·.add (lv.toNat * a'.wd))) (hv.toNat - lv.toNat) (ys.length - lv.toNat)) w := by
          intro h1 h2
          have hb := run_bounds' (P := P) (w := w) true n ys.length l h lv hv bx bY h1.1 h1.2 h2.1 h2.2
          simp only [Instr.sliceAt, Sem.run_bind, run_underlying hu, Result.andThen_ok, Instr.slice, hb, run_sizeOf' hin, Sem.run_pure, hsz]
        split at hK
        · obtain ⟨hobs, hKK⟩ := conjI hK
          have h1 : 0 ≤ hv ∧ hv ≤ ys.length := hobs _ (.head _)
          have h2 : 0 ≤ lv ∧ lv ≤ hv := hobs _ (.tail _ (.head _))
          have hx0 : lv = 0 := by simp [boundOf] at hlo; omega
          subst hx0
          refine ⟨_, w, _, _, β, Z, run h1 h2, hKK, ⟨A, _, ys.length, hb, ?_, by omega, q2⟩, Trans.refl hh⟩
          have hA : (if ys.length = (0 : Int).toNat then A else A.map (·.add ((0 : Int).toNat * a'.wd))) = A := by
            split
            · rfl
            · cases A <;> simp [Addr.add]
          rw [hA]
          simp
        · obtain ⟨hobs, hKK⟩ := conjI hK
          have h1 : 0 ≤ hv ∧ hv ≤ ys.length := hobs _ (.head _)
          have h2 : 0 ≤ lv ∧ lv ≤ hv := hobs _ (.tail _ (.head _))
          refine ⟨_, w, _, _, β, Z, run h1 h2, hKK, ⟨A, _, ys.length, _, _, hb, rfl, by omega, by omega, q2, fun hne => ?_⟩, Trans.refl hh⟩
          obtain ⟨_, _, _, e3, _, _, _, h4⟩ := hr
          cases e3
          obtain ⟨ad, e4, _⟩ := h4 (by omega)
          obtain ⟨b, e5⟩ := hA ad e4
          subst e4 e5
          exact ⟨b, rfl, by rw [if_neg (by omega)]; simp [Addr.add_zero']⟩
      · exact hK.elim
    · exact hK.elim
  · exact hK.elim

theorem slice3_does (hh : HeapOK β H Z w) (t : TypeId) (x : BV) (lo hi mx : Option TV) (a : Value) (l h m : Option Value) (ha : x.conc β Z w [a]) (hl : OptConc β Z w lo l) (hhi : OptConc β Z w hi h) (hm : OptConc β Z w mx m) (hhs : h.isSome = true) {K : SV → List AObj → Prop} (hK : slice3K P H t x lo hi mx K) :
    KDoes P β H Z w (Instr.sliceAt t a l h m) K := by
  unfold slice3K at hK
  split at hK
  · rename_i el n he hn hstr
    obtain ⟨e, τ, by_⟩ := el
    obtain ⟨hu, _, inf, hin, hsz, _, _⟩ := elemOf_spec he
    split at hK
    · rename_i lv hv km mv hlo hhi'
      obtain ⟨hobs, hK⟩ := conjI hK
      have h0 : 0 ≤ mv ∧ mv ≤ n := hobs _ (.head _)
      have h1 : 0 ≤ hv ∧ hv ≤ mv := hobs _ (.tail _ (.head _))
      have h2 : 0 ≤ lv ∧ lv ≤ hv := hobs _ (.tail _ (.tail _ (.head _)))
      have bx := boundOf_run' hlo hl
      have bY := boundOf_run' hhi' hhi
      cases m with
      | none => exact hm.elim
      | some m =>
        have := one_int (β := β) (Z := Z) (w := w) hm
        subst this
        rcases lenOf_conc hh.objsOK hn ha with ⟨A, c, rfl, q1, q2⟩ | ⟨s, rfl, rfl, _⟩
        · have hvh : ∃ k, h = some (.int k hv) := by
            rcases bY with ⟨rfl, _⟩ | h
            · cases hhs
            · exact h
          obtain ⟨kh, rfl⟩ := hvh
          refine ⟨.slice (if mv.toNat = lv.toNat then A else A.map (·.add (lv.toNat * inf.size))) (hv.toNat - lv.toNat) (mv.toNat - lv.toNat), w, _, _, β, Z, ?_, hK, trivial, Trans.refl hh⟩
          rcases bx with ⟨rfl, rfl⟩ | ⟨kl, rfl⟩
          · simp only [Instr.sliceAt, Sem.run_bind, run_underlying hu, Result.andThen_ok, Instr.slice, Instr.sliceBounds, Sem.run_pure, run_sliceBound (P := P) w km mv c _ h0.1 (by omega), run_sliceBound (P := P) w kh hv mv.toNat _ h1.1 (by omega), run_sizeOf' hin]
            rfl
          · simp only [Instr.sliceAt, Sem.run_bind, run_underlying hu, Result.andThen_ok, Instr.slice, Instr.sliceBounds, Sem.run_pure, run_sliceBound (P := P) w km mv c _ h0.1 (by omega), run_sliceBound (P := P) w kh hv mv.toNat _ h1.1 (by omega), run_sliceBound (P := P) w kl lv hv.toNat _ h2.1 (by omega), run_sizeOf' hin]
        · cases hstr
    · exact hK.elim
  · exact hK.elim

theorem own_conc (hh : HeapOK β H Z w) {v : BV} {n k : Nat} (hn : ownOf v = some n) (hr : rowWd (objAt H n) = some k) {x : Value} (hv : v.conc β Z w [x]) :
    ∃ A m c A' l c', β[n]? = some (.slice A m c) ∧ x = .slice A' l c' ∧ (l ≠ 0 → A' ≠ none → ∃ g o, A = some ⟨g, 0, none⟩ ∧ A' = some ⟨g, o, none⟩) ∧ (l ≠ 0 → c ≠ 0) := by
  have key2 : ∀ {A : Option Addr} {m c : Nat}, β[n]? = some (.slice A m c) → m ≤ c := by
    intro A m c hb
    have hob := hh.objsOK.at_ hb
    cases ho : objAt H n with
    | row e τ xs =>
      rw [ho] at hob
      obtain ⟨cs, g1, _⟩ := hob
      rcases g1.2 with ⟨e1, e2⟩ | ⟨g, cap, cur, e1, _, _, q, _⟩
      · cases e1; exact Nat.le_refl _
      · cases e1; exact q
    | buf e τ ys k =>
      rw [ho] at hob
      obtain ⟨A', e1, q, _⟩ := buf_reads hob
      cases e1
      exact q
    | _ => rw [ho] at hr; cases hr
  have key : ∀ {A : Option Addr} {m c : Nat}, β[n]? = some (.slice A m c) → A ≠ none → ∃ g, A = some ⟨g, 0, none⟩ := by
    intro A m c hb hne
    have hob := hh.objsOK.at_ hb
    cases ho : objAt H n with
    | row e τ xs =>
      rw [ho] at hob
      obtain ⟨cs, g1, _⟩ := hob
      rcases g1.2 with ⟨e1, e2⟩ | ⟨g, cap, cur, e1, _⟩
      · cases e1; exact absurd rfl hne
      · cases e1; exact ⟨g, rfl⟩
    | buf e τ ys k =>
      rw [ho] at hob
      obtain ⟨A', e1, _, _, _, hA⟩ := buf_reads hob
      cases e1
      cases A with
      | none => exact absurd rfl hne
      | some ad => obtain ⟨b, rfl⟩ := hA ad rfl; exact ⟨b, rfl⟩
    | _ => rw [ho] at hr; cases hr
  unfold ownOf at hn
  split at hn
  · cases hn; obtain ⟨A, m, c, hb, ee⟩ := hv; cases ee
    refine ⟨A, m, c, A, m, c, hb, rfl, fun _ hne => ?_, fun h => by have := key2 hb; omega⟩
    obtain ⟨g, rfl⟩ := key hb hne; exact ⟨g, 0, rfl, rfl⟩
  · cases hn; obtain ⟨A, m, c, hb, ee, q1, q2⟩ := hv; cases ee
    refine ⟨A, m, c, A, _, c, hb, rfl, fun _ hne => ?_, fun h => by omega⟩
    obtain ⟨g, rfl⟩ := key hb hne; exact ⟨g, 0, rfl, rfl⟩
  · cases hn; obtain ⟨A, m, c, hb, ee, q1, q2⟩ := hv; cases ee
    refine ⟨A, m, c, A, _, c, hb, rfl, fun _ hne => ?_, fun h => by omega⟩
    obtain ⟨g, rfl⟩ := key hb hne; exact ⟨g, 0, rfl, rfl⟩
  · cases hn; obtain ⟨A, m, c, A', c', hb, ee, q1, q2, _, _, hA⟩ := hv; cases ee
    exact ⟨A, m, c, A', _, c', hb, rfl, (fun hl _ => let ⟨b, h1, h2⟩ := hA hl; ⟨b, _, h1, h2⟩), fun h => by omega⟩
  · cases hn; obtain ⟨A, m, c, A', c', hb, ee, q1, _, _, hA⟩ := hv; cases ee
    exact ⟨A, m, c, A', _, c', hb, rfl, (fun hl _ => let ⟨b, h1, h2⟩ := hA hl; ⟨b, _, h1, h2⟩), fun h => by omega⟩
  · cases hn

theorem row_cells (hh : HeapOK β H Z w) {n k g : Nat} (hr : rowWd (objAt H n) = some k) {m c : Nat} (hb : β[n]? = some (.slice (some ⟨g, 0, none⟩) m c)) : ∃ cur t, w.heap[g]? = some (.cells cur t (0, 0)) ∧ cur.size = c * k ∧ m ≤ c ∧ (objAt H n).live = true := by
  have hob := hh.objsOK.at_ hb
  cases ho : objAt H n with
  | row e τ xs =>
    rw [ho] at hob hr
    cases hr
    obtain ⟨cs, g1, _⟩ := hob
    rcases g1.2 with ⟨e1, e2⟩ | ⟨g', cap, cur, e1, q1, q2, q3, q4, q5, _⟩
    · cases e1
    · cases e1; exact ⟨cur, e, q2, q5, q3, rfl⟩
  | buf e τ ys k =>
    rw [ho] at hob hr
    cases hr
    obtain ⟨A', cs, e1, h1, h2, _⟩ := hob
    cases e1
    rcases h2.2 with ⟨e1, e2⟩ | ⟨g', cap, cur, e1, q1, q2, q3, q4, q5, _⟩
    · cases e1
    · cases e1; exact ⟨cur, e, q2, q5, h1, rfl⟩
  | _ => rw [ho] at hr; cases hr

theorem run_overlaps_nothing {tS tR e : TypeId} {size : Nat} (ht : P.underlying tS = some (.slice e)) (hz : (Go.sizeOf e).run P w = .ok size w) (A B : Option Addr) (la ca lb cb : Nat) (h : A = none ∨ B = none ∨ la = 0 ∨ lb = 0) :
    (Extern.SlicesOverlaps.overlaps #[tS, tS] #[tR] #[.slice A la ca, .slice B lb cb]).run P w = .ok (.bool false) w := by
  change Sem.run P (α := Value) (do
    let some t := (#[tS, tS] : Array TypeId)[0]? | stuck "slices.overlaps: no parameter types"
    let .slice elem ← underlying t | stuck "slices.overlaps: slice type expected"
    let size ← sizeOf elem
    match A, B with
    | some a, some b =>
      if la = 0 ∨ lb = 0 ∨ size = 0 then pure (Value.bool false)
      else if a.block != b.block && (← frozen a) && (← frozen b) then unsupported .addressObserved
      else do
        if a.block != b.block then do
          noView a; noView b
          if ← mayBeOne a b then return Value.bool ((← choose (.extern "sameAddr.stringBytes" 2)) == 1)
        pure (Value.bool (a.block == b.block && a.off < b.off + lb * size && b.off < a.off + la * size))
    | _, _ => pure (Value.bool false)) w = _
  cases A with
  | none => simp [run_underlying ht, hz]
  | some a =>
    cases B with
    | none => simp [run_underlying ht, hz]
    | some b =>
      have h' : la = 0 ∨ lb = 0 ∨ size = 0 := by
        rcases h with h | h | h | h
        · cases h
        · cases h
        · exact .inl h
        · exact .inr (.inl h)
      simp [run_underlying ht, hz, h']

theorem apart_does (hh : HeapOK β H Z w) (f : FuncId) (u v : BV) (a b : Value) (ha : u.conc β Z w [a]) (hb : v.conc β Z w [b]) {K : SV → List AObj → Prop} (hK : apartK P H f u v K) :
    ∃ x w' r H' β' Z', (callFunc f #[a, b]).run P w = .ok (.value x) w' ∧ K r H' ∧ r.conc β' Z' w' x ∧ Trans β H Z w β' H' Z' w' := by
  obtain ⟨⟨fn, t, e, tr, hf, h1, h2, h3, h4, hu, hi⟩, hK⟩ := hK
  obtain ⟨i, hi⟩ := Option.isSome_iff_exists.1 hi
  split at hK
  · rename_i n m hn hm
    split at hK
    · rename_i kn k hnm hrn hrm
      split at hK
      · rename_i hk
        refine ⟨.bool false, w, _, _, β, Z, ?_, hK, rfl, Trans.refl hh⟩
        rw [run_callFunc_extern hf h1 h2 h3 h4]
        obtain ⟨A, p, c, A', l, c', b1, rfl, d1, z1⟩ := own_conc hh hn hrn ha
        obtain ⟨B, p2, c2, B', l2, c2', b2, rfl, d2, z2⟩ := own_conc hh hm hrm hb
        have hov : (Extern.SlicesOverlaps.overlaps #[t, t] #[tr] #[.slice A' l c', .slice B' l2 c2']).run P w = .ok (.bool false) w := by
          cases A' with
          | none => exact run_overlaps_nothing hu (run_sizeOf' hi) _ _ _ _ _ _ (.inl rfl)
          | some ad =>
            cases B' with
            | none => exact run_overlaps_nothing hu (run_sizeOf' hi) _ _ _ _ _ _ (.inr (.inl rfl))
            | some bd =>
              by_cases hl : l = 0 ∨ l2 = 0
              · exact run_overlaps_nothing hu (run_sizeOf' hi) _ _ _ _ _ _ (.inr (.inr hl))
              · obtain ⟨g, o, rfl, e1⟩ := d1 (fun h => hl (.inl h)) (by simp)
                obtain ⟨g2, o2, rfl, e2⟩ := d2 (fun h => hl (.inr h)) (by simp)
                cases e1; cases e2
                obtain ⟨cur, t1, c1, s1, m1, lv1⟩ := row_cells hh hrn b1
                obtain ⟨cur2, t2, cc2, s2, m2, lv2⟩ := row_cells hh hrm b2
                have hne : g ≠ g2 := by
                  intro e
                  subst e
                  have hlt1 : n < H.length := by rw [← hh.len]; exact (List.getElem?_eq_some_iff.1 b1).1
                  have hlt2 : m < H.length := by rw [← hh.len]; exact (List.getElem?_eq_some_iff.1 b2).1
                  obtain ⟨_, _, q1, _⟩ := hh.get hlt1
                  obtain ⟨_, _, q2, _⟩ := hh.get hlt2
                  have := hh.apart n m _ _ _ _ g q1 q2 lv1 lv2 b1 b2 rfl rfl
                  subst this
                  rw [Nat.beq_refl] at hnm; cases hnm
                have hk0 : k ≠ 0 := fun e => by rw [e] at hk; cases hk
                have hl2 : c2 ≠ 0 := z2 fun h => hl (.inr h)
                exact Lib.run_overlaps_apart w t tr e hu i.size (fun w => run_sizeOf' hi) ⟨g, o, none⟩ ⟨g2, o2, none⟩ l c' l2 c2' hne t1 t2 cur.size cur2.size (by simp [World.shape?, c1]) (by simp [World.shape?, cc2])
                  (by rw [s2]; exact Nat.mul_ne_zero hl2 hk0) (by simp [World.frozen?, c1]) (by simp [World.frozen?, c1])
        rw [hov]; rfl
      · exact hK.elim
    · exact hK.elim
  · exact hK.elim

theorem kdoes_v {ρ : Operand → Value} {o : Oper} {s : Sem Value} {K : SV → List AObj → Prop} (h : execOp ρ o = (do pure (.value (← s)))) (hs : KDoes P β H Z w s K) :
    ∃ x w' r H' β' Z', (execOp ρ o).run P w = .ok (.value x) w' ∧ K r H' ∧ r.conc β' Z' w' x ∧ Trans β H Z w β' H' Z' w' := by
  obtain ⟨x, w', r, H', β', Z', h1, h2⟩ := hs
  exact ⟨x, w', r, H', β', Z', by rw [h]; simp [h1], h2⟩

theorem bufOp_does (hh : HeapOK β H Z w) (ρ : Operand → Value) (o : Oper) (vs : List SV) (hx : SVs β Z w vs (o.op.operands.toList.map ρ)) {K : SV → List AObj → Prop} (h : bufOp P o.op vs H K) :
    ∃ x w' r H' β' Z', (execOp ρ o).run P w = .ok (.value x) w' ∧ K r H' ∧ r.conc β' Z' w' x ∧ Trans β H Z w β' H' Z' w' := by
  unfold bufOp at h
  split at h
  case h_1 t a x heq =>
    rw [heq] at hx
    obtain ⟨_, _, e, h1, _⟩ := hx; cases e
    exact kdoes_v (s := Instr.sliceAt t (ρ a) none none none) (by simp only [execOp, heq]; rfl) (bslice_does hh t x none none _ none none h1 trivial trivial h)
  case h_2 t a b x l heq =>
    rw [heq] at hx
    obtain ⟨_, _, e, h1, _, _, e', h2, _⟩ := hx; cases e; cases e'
    exact kdoes_v (s := Instr.sliceAt t (ρ a) (some (ρ b)) none none) (by simp only [execOp, heq]; rfl) (bslice_does hh t x (some l) none _ (some _) none h1 h2 trivial h)
  case h_3 t a b x l heq =>
    rw [heq] at hx
    obtain ⟨_, _, e, h1, _, _, e', h2, _⟩ := hx; cases e; cases e'
    exact kdoes_v (s := Instr.sliceAt t (ρ a) none (some (ρ b)) none) (by simp only [execOp, heq]; rfl) (bslice_does hh t x none (some l) _ none (some _) h1 trivial h2 h)
  case h_4 t a b c x l hi heq =>
    rw [heq] at hx
    obtain ⟨_, _, e, h1, _, _, e', h2, _, _, e'', h3, _⟩ := hx; cases e; cases e'; cases e''
    exact kdoes_v (s := Instr.sliceAt t (ρ a) (some (ρ b)) (some (ρ c)) none) (by simp only [execOp, heq]; rfl) (bslice_does hh t x (some l) (some hi) _ (some _) (some _) h1 h2 h3 h)
  case h_5 t a b c x l hi heq =>
    rw [heq] at hx
    obtain ⟨_, _, e, h1, _, _, e', h2, _, _, e'', h3, _⟩ := hx; cases e; cases e'; cases e''
    exact kdoes_v (s := Instr.sliceAt t (ρ a) none (some (ρ b)) (some (ρ c))) (by simp only [execOp, heq]; rfl) (slice3_does hh t x none (some l) (some hi) _ none (some _) (some _) h1 trivial h2 h3 rfl h)
  case h_6 t a b c d x l hi mx heq =>
    rw [heq] at hx
    obtain ⟨_, _, e, h1, _, _, e', h2, _, _, e'', h3, _, _, e3, h4, _⟩ := hx; cases e; cases e'; cases e''; cases e3
    exact kdoes_v (s := Instr.sliceAt t (ρ a) (some (ρ b)) (some (ρ c)) (some (ρ d))) (by simp only [execOp, heq]; rfl) (slice3_does hh t x (some l) (some hi) (some mx) _ (some _) (some _) (some _) h1 h2 h3 h4 rfl h)
  case h_7 op' vs' c heq =>
    rename_i vs
    rw [heq] at hx
    have hargs : ∀ b, c.callee = .builtin b → (execOp ρ o) = builtin b c.argTypes o.type (c.args.map fun | .const _ => true | _ => false) (c.args.map ρ) ∧ SVs β Z w vs (c.args.map ρ).toList := by
      intro b hb
      refine ⟨by simp only [execOp, heq, resolve, hb]; rfl, ?_⟩
      simpa [Op.operands, Call.operands, hb] using hx
    split at h
    · rename_i hb
      obtain ⟨he, hv⟩ := hargs _ hb
      split at h
      · obtain ⟨a, _, e, h1, e2⟩ := hv
        simp only [SVs] at e2
        subst e2
        have e : c.args.map ρ = #[a] := by rw [← Array.toArray_toList (xs := c.args.map ρ), e]
        exact kdoes_v (s := Builtin.cap_ c.argTypes o.type #[a]) (by rw [he, e]; rfl) (cap_does hh c.argTypes o.type _ a h1 h)
      · exact h.elim
    · rename_i hb
      obtain ⟨he, hv⟩ := hargs _ hb
      split at h
      · obtain ⟨a, _, e, h1, e2⟩ := hv
        simp only [SVs] at e2
        subst e2
        have e : c.args.map ρ = #[a] := by rw [← Array.toArray_toList (xs := c.args.map ρ), e]
        exact kdoes_v (s := Builtin.clear_ c.argTypes o.type #[a]) (by rw [he, e]; rfl) (clear_does hh c.argTypes o.type _ a h1 h)
      · exact h.elim
    · rename_i hb
      obtain ⟨he, hv⟩ := hargs _ hb
      split at h
      · obtain ⟨a, _, e, h1, b, _, e2, h2, e3⟩ := hv
        simp only [SVs] at e3
        subst e2 e3
        have e : c.args.map ρ = #[a, b] := by rw [← Array.toArray_toList (xs := c.args.map ρ), e]
        exact kdoes_v (s := Builtin.copy_ c.argTypes o.type #[a, b]) (by rw [he, e]; rfl) (copy_does hh c.argTypes o.type _ _ a b h1 h2 h)
      · exact h.elim
    · rename_i hb
      obtain ⟨he, hv⟩ := hargs _ hb
      split at h
      · obtain ⟨a, _, e, h1, b, _, e2, h2, e3⟩ := hv
        simp only [SVs] at e3
        subst e2 e3
        have e : c.args.map ρ = #[a, b] := by rw [← Array.toArray_toList (xs := c.args.map ρ), e]
        exact kdoes_v (s := Builtin.append_ c.argTypes o.type #[a, b]) (by rw [he, e]; rfl) (appendK_does hh c.argTypes o.type _ _ a b h1 h2 h)
      · exact h.elim
    · rename_i fo hcal
      split at h
      · rename_i f u v
        obtain ⟨fv, _, e, ⟨cvs, efv, hcaps⟩, a, _, e1, h1, b, _, e2, h2, e3⟩ := hx
        simp only [SVs] at e3
        subst e1 e2 e3
        have e' : Call.operands c = #[fo] ++ c.args := by simp [Call.operands, hcal]
        rw [show (Op.call c).operands = c.operands from rfl, e'] at e
        simp only [Array.toList_append, List.cons_append, List.nil_append, List.map_cons, List.cons.injEq] at e
        obtain ⟨e1, e2⟩ := e
        cases efv
        have hc0 : cvs = [] := hcaps
        subst hc0
        have hargs : c.args.map ρ = #[a, b] := by rw [← Array.toArray_toList (xs := c.args.map ρ), Array.toList_map, e2]
        obtain ⟨x, w', r, H', β', Z', hrun, hrest⟩ := apart_does hh f u v a b h1 h2 h
        refine ⟨x, w', r, H', β', Z', ?_, hrest⟩
        have hexec : (execOp ρ o).run P w = (callFunc f (c.args.map ρ ++ #[])).run P w := by
          simp only [execOp, heq, resolve, hcal, Sem.run_bind, e1, Deferred.ofValue, Sem.run_pure, Result.andThen_ok, invoke]
          simp
        rw [hexec, hargs]
        exact hrun
      · exact h.elim
    · exact h.elim
  case h_8 => exact h.elim

end

end Go.Proofs.Ythjogeodclpafaa.AM
