/- The quiet operations of the abstract machine: slicing, maps, builtins; and all of them together. -/
import Derived.Test.YthjogeodclpafaaAm5b
set_option linter.unusedVariables false
set_option linter.unusedSimpArgs false
namespace Go.Proofs.Ythjogeodclpafaa.AM
open Go

section
variable {P : Program} {β : List Value} {Z : Nat → Prop} {w : World} {H : List AObj}

def OptConc (β : List Value) (Z : Nat → Prop) (w : World) : Option TV → Option Value → Prop
  | none, none => True
  | some u, some x => u.conc β Z w x
  | _, _ => False

theorem boundOf_run' {d : Nat} {v : Option TV} {l : Int} {y : Option Value} (h : boundOf d v = some l) (hv : OptConc β Z w v y) : (y = none ∧ l = d) ∨ ∃ k, y = some (.int k l) :=
  boundOf_run (β := β) (Z := Z) (w := w) h (by cases v <;> cases y <;> exact hv)

theorem header_at (hH : ObjsOK β Z w H) {m n : Nat} {A : Option Addr} {c l : Nat} (hb : β[m]? = some (.slice A n c)) (hl : lenOf H (.hd m) = some l) : n = l ∧ l ≤ c ∧ c ≤ maxLen ∧ (l ≠ 0 → ∃ b, A = some ⟨b, 0, none⟩) := by
  have ho' := hH.at_ hb
  simp only [lenOf] at hl
  split at hl
  · rename_i hn'
    cases hl
    rw [hn'] at ho'
    obtain ⟨cs, g1, _⟩ := ho'
    rcases g1.2 with ⟨e1, e2⟩ | ⟨g, cap, cur, e1, _, _, q1, q2, _⟩
    · cases e1; exact ⟨by omega, by omega, by unfold maxLen; omega, fun h => absurd e2 h⟩
    · cases e1; exact ⟨rfl, q1, q2, fun _ => ⟨g, rfl⟩⟩
  · rename_i hn'
    cases hl
    rw [hn'] at ho'
    obtain ⟨A', c', cs, e, q1, q2, _⟩ := ho'.1
    cases e
    exact ⟨rfl, q1, q2, fun h => ho'.2 _ _ _ rfl h⟩
  · rename_i hn'
    cases hl
    rw [hn'] at ho'
    obtain ⟨A2, e1, q1, q2, hr, hA⟩ := buf_reads ho'
    cases e1
    refine ⟨rfl, q1, q2, fun h => ?_⟩
    obtain ⟨_, _, _, e3, _, _, _, h4⟩ := hr
    cases e3
    obtain ⟨ad, e4, _⟩ := h4 (by omega)
    obtain ⟨b, e5⟩ := hA ad e4
    exact ⟨b, by rw [e4, e5]⟩
  · cases hl

theorem slice_yields (hH : ObjsOK β Z w H) (t : TypeId) (u : TV) (lo hi : Option TV) (a : Value) (l h : Option Value) (ha : u.conc β Z w a) (hl : OptConc β Z w lo l) (hh : OptConc β Z w hi h) :
    Yields1 P β Z w (Instr.sliceAt t a l h none) (sliceStep P H t u lo hi) := by
  unfold sliceStep
  split
  · rename_i s
    have := one_str ha; subst this
    split
    · rename_i x y hu hx hy
      refine yields_some fun ho => ⟨.string (s.extract x.toNat y.toNat), ?_, rfl⟩
      have h1 : 0 ≤ y ∧ y ≤ s.size := ho _ (by simp)
      have h2 : 0 ≤ x ∧ x ≤ y := ho _ (by simp)
      have hb := run_bounds (P := P) (w := w) false s.size s.size l h x y (boundOf_run' hx hl) (boundOf_run' hy hh) h1.1 h1.2 (Nat.le_refl _) h2.1 h2.2
      simp [Instr.sliceAt, run_underlying hu, Instr.slice, hb]
    · exact yields_none _
  · rename_i p _
    split
    · rename_i e τ by_ n he hn
      obtain ⟨hu, _, inf, hin, hsz, _, _⟩ := elemOf_spec he
      split
      · rename_i x y hx hy
        have bx := boundOf_run' hx hl
        have by_ := boundOf_run' hy hh
        have run : ∀ A c, n ≤ c → 0 ≤ y ∧ y ≤ n → 0 ≤ x ∧ x ≤ y → (Instr.sliceAt t (.slice A n c) l h none).run P w = .ok (.slice (if c = x.toNat then A else A.map (·.add (x.toNat * τ.wd))) (y.toNat - x.toNat) (c - x.toNat)) w := by
          intro A c hc h1 h2
          have hb := run_bounds (P := P) (w := w) true n c l h x y bx by_ h1.1 h1.2 hc h2.1 h2.2
          simp only [Instr.sliceAt, Sem.run_bind, run_underlying hu, Result.andThen_ok, Instr.slice, hb, run_sizeOf' hin, Sem.run_pure, hsz]
        split
        · rename_i e' a' xs _
          split
          · rename_i q _; subst q
            refine yields_some fun ho => ?_
            have h1 : 0 ≤ y ∧ y ≤ n := ho _ (by simp)
            have h2 : 0 ≤ x ∧ x ≤ y := ho _ (by simp)
            cases hn
            obtain ⟨v, ev, A, c, cs, rfl, q1, q2, q3, q4⟩ := ha
            cases ev
            refine ⟨_, run A c q1 h1 h2, _, rfl, ?_⟩
            have hlen : ((xs.drop x.toNat).take (y.toNat - x.toNat)).length = y.toNat - x.toNat := by simp; omega
            show FrozenAt Z w (EncAll (a'.Enc Z w) ((xs.drop x.toNat).take (y.toNat - x.toNat))) ((xs.drop x.toNat).take (y.toNat - x.toNat)).length _
            rw [hlen]
            refine ⟨_, _, (cs.drop (x.toNat * a'.wd)).take ((y.toNat - x.toNat) * a'.wd), rfl, by omega, by omega, ((q3.drop (fun _ _ => Ty.Enc.length a') _).take (fun _ _ => Ty.Enc.length a') _), fun hne => ?_⟩
            obtain ⟨ad, rfl, hsp, hz, hc⟩ := q4 (by omega)
            rw [if_neg (by omega)]
            refine ⟨_, rfl, by simp only [Addr.add_spot hsp], by simp only [Addr.add_block]; exact hz, fun j u hj => ?_⟩
            have : cs[x.toNat * a'.wd + j]? = some u := by
              rw [List.getElem?_take] at hj
              split at hj
              · rwa [List.getElem?_drop] at hj
              · cases hj
            have := hc _ _ this
            rw [Addr.add_spot hsp] at this
            simp only [Addr.add_spot hsp, Addr.add_zero', Nat.add_assoc]
            exact this
          · exact yields_none _
        · rename_i m
          split
          · exact yields_none _
          split
          · refine yields_some fun ho => ?_
            have h1 : 0 ≤ y ∧ y ≤ n := ho _ (by simp)
            have h2 : 0 ≤ x ∧ x ≤ y := ho _ (by simp)
            obtain ⟨A, n', c, hb, ee⟩ := ha
            cases ee
            obtain ⟨rfl, q1, q2, q3⟩ := header_at hH hb hn
            have hx0 : x = 0 := by simp [boundOf] at hx; omega
            subst hx0
            refine ⟨_, run A c q1 h1 h2, A, n', c, hb, ?_, by omega, q1, q2⟩
            have hA : (if c = (0 : Int).toNat then A else A.map (·.add ((0 : Int).toNat * τ.wd))) = A := by
              split
              · rfl
              · cases A <;> simp [Addr.add]
            rw [hA]
            simp
          refine yields_some fun ho => ?_
          have h1 : 0 ≤ y ∧ y ≤ n := ho _ (by simp)
          have h2 : 0 ≤ x ∧ x ≤ y := ho _ (by simp)
          obtain ⟨A, n', c, hb, ee⟩ := ha
          cases ee
          obtain ⟨rfl, q1, q2, q3⟩ := header_at hH hb hn
          refine ⟨_, run A c q1 h1 h2, A, n', c, _, _, hb, rfl, by omega, q1, by omega, q2, fun hne => ?_⟩
          obtain ⟨b, rfl⟩ := q3 (by omega)
          exact ⟨b, rfl, by rw [if_neg (by omega)]; simp [Addr.add_zero']⟩
        · rename_i m wd lo' len
          split
          · rename_i hw
            have hw := Nat.eq_of_beq_eq_true hw
            subst hw
            cases hn
            refine yields_some fun ho => ?_
            have h1 : 0 ≤ y ∧ y ≤ n := ho _ (by simp)
            have h2 : 0 ≤ x ∧ x ≤ y := ho _ (by simp)
            obtain ⟨A, n', c, A', c', hb, ee, q1, q1', q2, q3, q4⟩ := ha
            cases ee
            refine ⟨_, run A' c' (by omega) h1 h2, A, n', c, _, _, hb, rfl, by omega, q1', by omega, q3, fun hne => ?_⟩
            obtain ⟨b, rfl, rfl⟩ := q4 (by omega)
            exact ⟨b, rfl, by rw [if_neg (by omega)]; simp [Addr.add_zero', Nat.add_mul]⟩
          · exact yields_none _
        · refine yields_some fun ho => ?_
          have h1 : y = 0 := ho _ (by simp)
          have h2 : x = 0 := ho _ (by simp)
          cases hn
          have ha' : a = .slice none 0 0 := by simpa [TV.conc, BV.conc] using ha
          subst ha' h1 h2
          exact ⟨_, run none 0 (Nat.le_refl _) ⟨Int.le_refl _, Int.le_refl _⟩ ⟨Int.le_refl _, Int.le_refl _⟩, rfl⟩
        · exact yields_none _
      · exact yields_none _
    · exact yields_none _
  · exact yields_none _

/-! ### Zero values -/
theorem cellEqb_eq {a b : Value} (h : cellEqb a b = true) : a = b := by
  unfold cellEqb at h
  split at h
  · simp at h; rw [h.1, h.2]
  · simp at h; rw [h]
  · rename_i x y
    have : x.toList = y.toList := by simpa using h
    rw [ByteArray.toList_eq, ByteArray.toList_eq] at this
    obtain ⟨⟨x⟩⟩ := x; obtain ⟨⟨y⟩⟩ := y
    simp at this; rw [this]
  all_goals first | rfl | cases h

theorem allEqb_eq : ∀ {as bs : List Value}, allEqb as bs = true → as = bs
  | [], [], _ => rfl
  | [], _ :: _, h => by cases h
  | _ :: _, [], h => by cases h
  | a :: as, b :: bs, h => by
    simp only [allEqb, Bool.and_eq_true] at h
    rw [cellEqb_eq h.1, allEqb_eq h.2]

theorem EncAll.replicate {α : Type} {R : α → List Value → Prop} {x : α} {cs : List Value} (h : R x cs) : ∀ (n : Nat), EncAll R (List.replicate n x) (List.replicate n cs).flatten
  | 0 => rfl
  | n + 1 => ⟨cs, _, by simp [List.replicate_succ], h, EncAll.replicate h n⟩

theorem zero_enc : ∀ (τ : Ty), τ.Enc Z w τ.zero τ.zcells
  | .int _ => rfl
  | .bool => rfl
  | .str => rfl
  | .pair a b => ⟨_, _, rfl, zero_enc a, zero_enc b⟩
  | .sl _ a => ⟨_, rfl, none, 0, [], rfl, Nat.le_refl _, by unfold maxLen; omega, rfl, fun h => absurd rfl h⟩
  | .arr n a => ⟨by simp [Ty.zero], EncAll.replicate (zero_enc a) n⟩

theorem zeroOK_spec {t : TypeId} {agg : Bool} {τ : Ty} (h : zeroOK P t agg τ = true) : ∃ i z, P.info? t = some i ∧ i.zero = some z ∧ (zeroValue t).run P w = .ok z w ∧ z = valOf agg τ.zcells ∧ z.cells.toList = τ.zcells ∧ τ.Enc Z w τ.zero τ.zcells := by
  unfold zeroOK at h
  split at h
  · rename_i i hi
    split at h
    · rename_i cs hz
      simp only [Bool.and_eq_true] at h
      obtain ⟨rfl, h⟩ := h
      have := allEqb_eq h
      refine ⟨i, _, hi, hz, by simp [zeroValue, typeInfo, hi, hz], ?_, by simpa [Value.cells] using this, zero_enc τ⟩
      rw [← this]; simp [valOf]
    · rename_i z hn hz
      simp only [Bool.and_eq_true, Bool.not_eq_true'] at h
      obtain ⟨rfl, h⟩ := h
      have := allEqb_eq h
      refine ⟨i, z, hi, hz, by simp [zeroValue, typeInfo, hi, hz], ?_, ?_, zero_enc τ⟩
      · rw [← this]; rfl
      · rw [← this]
        cases z <;> first | rfl | exact (hn _ rfl).elim
    · cases h
  · cases h

/-! ### Maps -/
theorem keyTy_spec {t : TypeId} {κ : Ty} (h : keyTy P t = some κ) : (∃ k, κ = .int k ∧ P.underlying t = some (.int k)) ∨ (κ = .str ∧ P.underlying t = some .string) := by
  unfold keyTy at h
  split at h
  · cases h; exact .inl ⟨_, rfl, by assumption⟩
  · cases h; exact .inr ⟨rfl, by assumption⟩
  · cases h

theorem map_find {κ τ : Ty} {agg : Bool} (hκ : (∃ k, κ = .int k) ∨ κ = .str) (key : κ.D) (kv : Value) (hk : κ.Enc Z w key [kv]) (kd : TypeDesc) (hd : (∃ k, κ = .int k ∧ kd = .int k) ∨ (κ = .str ∧ kd = .string)) :
    ∀ (es : List (κ.D × τ.D)) (ms : List MapEntry) (i : Nat), MapEnc agg Z w es ms →
      match mapGet key es with
      | some x => ∃ j v cv, Instr.findNow kd kv ms i = some (some (j, v)) ∧ v = valOf agg cv ∧ τ.Enc Z w x cv
      | none => Instr.findNow kd kv ms i = some none
  | [], ms, i, h => by simp [MapEnc] at h; subst h; simp [mapGet, Instr.findNow]
  | (k, x) :: r, ms, i, ⟨e, ms', h, h1, ⟨cv, e2, h2⟩, hr⟩ => by
    subst h
    have ih := map_find hκ key kv hk kd hd r ms' (i + 1) hr
    have hs : Instr.sameNow kd kv e.key = some (κ.eqb key k) := by
      rcases hd with ⟨q, rfl, rfl⟩ | ⟨rfl, rfl⟩
      · have a1 : kv = .int q key := by simpa [Ty.Enc] using hk
        have a2 : e.key = .int q k := by simpa [Ty.Enc] using h1
        rw [a1, a2]; simp [Instr.sameNow, Ty.eqb]
      · have a1 : kv = .string key := by simpa [Ty.Enc] using hk
        have a2 : e.key = .string k := by simpa [Ty.Enc] using h1
        rw [a1, a2]; simp [Instr.sameNow, Ty.eqb, beq_toListBytes]
    simp only [mapGet]
    cases hq : κ.eqb key k with
    | true =>
      simp only [Instr.findNow, hs, hq]
      exact ⟨i, e.val, cv, rfl, e2, h2⟩
    | false =>
      simp only [Instr.findNow, hs, hq]
      exact ih

theorem checkKey_ok (em : Bool) (n : Nat) (t : TypeId) (v : Value) (h : (∃ k, P.underlying t = some (.int k)) ∨ P.underlying t = some .string) : (Instr.checkKey em (n + 1) t v).run P w = .ok () w := by
  rcases h with ⟨k, h⟩ | h
  · cases v <;> simp [Instr.checkKey, run_underlying h]
  · cases v <;> simp [Instr.checkKey, run_underlying h]

theorem lookup_yields (hH : ObjsOK β Z w H) (t : TypeId) (m k : TV) (ok : Bool) (a b : Value) (ha : m.conc β Z w a) (hb : k.conc β Z w b) : Yields1 P β Z w (Instr.lookup t a b ok) (lookupStep P H t m k ok) := by
  unfold lookupStep
  split
  · rename_i kt et n hu
    split
    · rename_i agg' κ τ es agg sz κ' hn hk hkt
      split
      · rename_i q key _ hdec hsz
        subst q
        split
        · rename_i v hv
          split
          · rename_i hz
            obtain ⟨bb, hbb, e⟩ := ha; cases e
            simp only [Bool.and_eq_true, beq_iff_eq] at hsz
            obtain ⟨hsz, rfl⟩ := hsz
            have hsz := Nat.eq_of_beq_eq_true hsz
            subst hsz
            have ho := hH.at_ hbb
            rw [hn] at ho
            obtain ⟨b', ms, clock, e, hheap, hm⟩ := ho
            cases e
            obtain ⟨d, hud, hd⟩ : ∃ d, P.underlying kt = some d ∧ ((∃ k, κ' = .int k ∧ d = .int k) ∨ (κ' = .str ∧ d = .string)) := by
              rcases keyTy_spec hkt with ⟨q, rfl, h⟩ | ⟨rfl, h⟩
              · exact ⟨_, h, .inl ⟨q, rfl, rfl⟩⟩
              · exact ⟨_, h, .inr ⟨rfl, rfl⟩⟩
            have hκ : (∃ k, κ' = .int k) ∨ κ' = .str := by
              rcases hd with ⟨q, h, _⟩ | ⟨h, _⟩
              · exact .inl ⟨q, h⟩
              · exact .inr h
            have hkey : κ'.Enc Z w key [b] := by
              cases k with
              | one kv => exact dec_conc (β := β) hdec (show ConcL β Z w [kv] [b] from ⟨[b], [], rfl, hb, rfl⟩)
              | agg cs => cases hdec
            have hf := map_find (τ := τ) hκ key b hkey d hd es ms.toList 0 hm
            have hck : ∀ em, (Instr.checkKey em 10000 kt b).run P w = .ok () w := fun em => checkKey_ok em 9999 kt b (by
              rcases hd with ⟨q, _, rfl⟩ | ⟨_, rfl⟩
              · exact .inl ⟨q, hud⟩
              · exact .inr hud)
            obtain ⟨i, z, hi, hiz, hzr, hzv, _, hze⟩ := zeroOK_spec (Z := Z) (w := w) hz
            have run : ∀ (r : Option (Nat × Value)), Instr.findNow d b ms.toList 0 = some r → (Instr.lookup t (.map (some bb)) b ok).run P w =
                .ok (if ok then .tuple #[(match r with | some (_, v) => v | none => z), .bool r.isSome] else (match r with | some (_, v) => v | none => z)) w := by
              intro r hr
              have hg : (getObj bb).run P w = .ok (.map ms clock) w := by simp [getObj, Sem.run, hheap]
              cases r with
              | none => simp [Instr.lookup, run_underlying hu, hg, hck, Instr.findKey, run_underlying hud, hr, hzr]
              | some p => simp [Instr.lookup, run_underlying hu, hg, hck, Instr.findKey, run_underlying hud, hr]
            have hval : ∃ r cv, Instr.findNow d b ms.toList 0 = some r ∧ r.isSome = (mapGet key es).isSome ∧ (match r with | some (_, v) => v | none => z) = valOf agg cv ∧ τ.Enc Z w ((mapGet key es).getD τ.zero) cv := by
              cases hg : mapGet key es with
              | none =>
                rw [hg] at hf
                exact ⟨none, _, hf, rfl, hzv, hze⟩
              | some x =>
                rw [hg] at hf
                obtain ⟨j, v', cv, h1, h2, h3⟩ := hf
                exact ⟨some (j, v'), cv, h1, rfl, h2, h3⟩
            obtain ⟨r, cv, h1, h2, h3, h4⟩ := hval
            have hcv := (asTV_conc hv (enc_conc (β := β) τ h4)).1
            have hrun := run r h1
            rw [h3, h2] at hrun
            split
            · refine yields_some fun _ => ⟨_, hrun, _, rfl, ?_⟩
              exact ⟨_, _, rfl, hcv, _, _, rfl, rfl, rfl⟩
            · refine yields_some fun _ => ⟨_, hrun, ?_⟩
              exact hcv
          · exact yields_none _
        · exact yields_none _
      · exact yields_none _
    · exact yields_none _
  · exact yields_none _


/-! ### Builtins -/
theorem MapEnc.length {κ τ : Ty} {agg : Bool} : ∀ {es : List (κ.D × τ.D)} {ms : List MapEntry}, MapEnc agg Z w es ms → ms.length = es.length
  | [], _, h => by simp [MapEnc] at h; simp [h]
  | _ :: _, _, ⟨e, ms', h, _, _, hr⟩ => by simp [h, MapEnc.length hr]

theorem len_yields (hH : ObjsOK β Z w H) (ts : Array TypeId) (ty : TypeId) (v : BV) (a : Value) (ha : v.conc β Z w [a]) : Yields1 P β Z w (Builtin.len_ ts ty #[a]) (lenStep P H ts.toList v) := by
  unfold lenStep
  split
  · rename_i t r hts
    have h0 : ts[0]? = some t := by rw [← Array.getElem?_toList, hts]; rfl
    split
    · rename_i n hu
      split
      · rename_i es hn
        obtain ⟨b, hb, e⟩ := ha; cases e
        have ho := hH.at_ hb
        rw [hn] at ho
        obtain ⟨b', ms, clock, e, hheap, hm⟩ := ho
        cases e
        refine yields_yv (x := .int .i64 _) ?_ rfl
        have hg : (getObj b).run P w = .ok (.map ms clock) w := by simp [getObj, Sem.run, hheap]
        have := hm.length
        simp at this
        simp [Builtin.len_, h0, run_underlying hu, hg, goInt, this]
      · exact yields_none _
    · rename_i hu
      have ha' : a = .map none := by simpa [BV.conc] using ha
      subst ha'
      exact yields_yv (x := .int .i64 _) (by simp [Builtin.len_, h0, run_underlying hu, goInt]) rfl
    · rename_i s hu
      have ha' : a = .string s := by simpa [BV.conc] using ha
      subst ha'
      exact yields_yv (x := .int .i64 _) (by simp [Builtin.len_, h0, run_underlying hu, goInt]) rfl
    · exact yields_none _
    · rename_i e hu hns
      split
      · rename_i n hl
        rcases lenOf_conc hH hl ha with ⟨A, c, rfl, _⟩ | ⟨s, e, rfl, _⟩
        · exact yields_yv (x := .int .i64 _) (by simp [Builtin.len_, h0, run_underlying hu, goInt]) rfl
        · exact (hns s e).elim
      · exact yields_none _
    · exact yields_none _
  · exact yields_none _


theorem min2_eq (a b : Int) : (if b < a then b else a) = min a b := by simp only [Int.min_def]; split <;> split <;> omega
theorem max2_eq (a b : Int) : (if b > a then b else a) = max a b := by simp only [Int.max_def]; split <;> split <;> omega

theorem minMax_yields (mn : Bool) (k : IntKind) : ∀ (r : List TV) (a : Int) (vs : List Value) (n : Int), minMax mn k a r = some n → TVs β Z w r vs →
    (vs.foldlM (m := Sem) (match mn with | true => Builtin.min2 | false => Builtin.max2) (.int k a)).run P w = .ok (.int k n) w
  | [], a, vs, n, h, hv => by simp [minMax] at h; simp [TVs] at hv; subst h hv; simp
  | x :: r, a, vs, n, h, ⟨y, vs', e, h1, h2⟩ => by
    subst e
    unfold minMax at h
    split at h
    · cases ‹x :: r = []›
    · rename_i heq
      cases heq
      have := one_int h1; subst this
      split at h
      · rename_i q _; subst q
        split at h
        · have ih := minMax_yields true k r _ vs' n h h2
          simp only [List.foldlM_cons, Sem.run_bind, Builtin.min2, Sem.run_pure, Result.andThen_ok, min2_eq]
          exact ih
        · have ih := minMax_yields false k r _ vs' n h h2
          simp only [List.foldlM_cons, Sem.run_bind, Builtin.max2, Sem.run_pure, Result.andThen_ok, max2_eq]
          exact ih
      · cases h
    · cases h

theorem capNames_conc : ∀ {xs : List TV} {l : List Nat} {vs : List Value}, capNames xs = some l → TVs β Z w xs vs → CapsOK β l vs
  | [], l, vs, h, hv => by simp [capNames] at h; simp [TVs] at hv; subst h hv; rfl
  | x :: r, l, vs, h, ⟨y, vs', e, h1, h2⟩ => by
    subst e
    unfold capNames at h
    split at h
    · cases ‹x :: r = []›
    · rename_i heq
      cases heq
      split at h
      · rename_i l' hl
        cases h
        obtain ⟨b, hb, rfl⟩ := one_ptr h1
        exact ⟨b, vs', rfl, hb, capNames_conc hl h2⟩
      · cases h
    · cases h

theorem open_conc {v : SV} {ps : List Prop} {x : TV} {a : Value} (h : open_ v = some (ps, x)) (hp : ∀ q ∈ ps, q) (ha : v.conc β Z w a) : x.conc β Z w a := by
  unfold open_ at h
  split at h
  · cases h; exact ha
  · cases h

def SVs (β : List Value) (Z : Nat → Prop) (w : World) : List SV → List Value → Prop
  | [], xs => xs = []
  | t :: ts, xs => ∃ x r, xs = x :: r ∧ t.conc β Z w x ∧ SVs β Z w ts r

theorem openAll_conc : ∀ {vs : List SV} {ps : List Prop} {xs : List TV} {as : List Value}, openAll vs = some (ps, xs) → (∀ q ∈ ps, q) → SVs β Z w vs as → TVs β Z w xs as
  | [], ps, xs, as, h, _, ha => by simp [openAll] at h; rw [h.2]; exact ha
  | v :: r, ps, xs, as, h, hp, ⟨a, as', e, h1, h2⟩ => by
    unfold openAll at h
    split at h
    · rename_i p x q xs' ho hr
      cases h
      exact ⟨a, as', e, open_conc ho (fun t ht => hp t (by simp [ht])) h1, openAll_conc hr (fun t ht => hp t (by simp [ht])) h2⟩
    · cases h

theorem pickB_conc {c : Bool} {x y : TV} {r : BV} {a b : Value} (h : pickB c x y = some r) (ha : c = true → x.conc β Z w a) (hb : c = false → y.conc β Z w b) : r.conc β Z w [if c then a else b] := by
  unfold pickB at h
  split at h <;> cases h <;> cases c <;> simp_all [TV.conc, BV.conc]

theorem pick_yields (ρ : Operand → Value) (o : Oper) (c x y : Operand) (ho : o.op = .pick c x y) (u v t : SV) (hc : u.conc β Z w (ρ c)) (hx : ρ c = .bool true → v.conc β Z w (ρ x)) (hy : ρ c = .bool false → t.conc β Z w (ρ y)) :
    ∀ obs r, pickStep u v t = some (obs, r) → (∀ q ∈ obs, q) → ∃ z, (execOp ρ o).run P w = .ok (.value z) w ∧ r.conc β Z w z := by
  intro obs r h hob
  have run : ∀ b, ρ c = .bool b → (execOp ρ o).run P w = .ok (.value (if b then ρ x else ρ y)) w := by
    intro b hb
    simp [execOp, ho, hb, asBool]
  unfold pickStep at h
  split at h
  · split at h
    · cases h
      have h1 := one_lit (β := β) (Z := Z) (w := w) hc
      exact ⟨_, run _ h1, hx h1⟩
    · cases h
  · split at h
    · cases h
      have h1 := one_lit (β := β) (Z := Z) (w := w) hc
      exact ⟨_, run _ h1, hy h1⟩
    · cases h
  · rename_i b
    split at h
    · split at h
      · rename_i r' hr
        cases h
        have h1 := one_bool (β := β) (Z := Z) (w := w) hc
        exact ⟨_, run _ h1, pickB_conc hr (fun hb => hx (by rw [h1, hb])) (fun hb => hy (by rw [h1, hb]))⟩
      · cases h
    · cases h
  · cases h

/-! ### All together -/
theorem exec_v {o : Oper} {ρ : Operand → Value} {s : Sem Value} (h : execOp ρ o = (do pure (.value (← s)))) {x : Value} (hs : s.run P w = .ok x w) : (execOp ρ o).run P w = .ok (.value x) w := by
  rw [h]; simp [hs]

theorem eql_nil {t e : TypeId} (hu : P.underlying t = some (.slice e)) (A : Option Addr) (n c : Nat) : (Op.equal t (.slice A n c) (.slice none 0 0)).run P w = .ok A.isNone w := by
  have heq : ∀ d, (Op.equalIn (d + 1) t (.slice A n c) (.slice none 0 0)).run P w = .ok A.isNone w := by
    intro d
    cases A <;> simp [Op.equalIn, run_underlying hu]
  exact heq 9999

theorem nilTest_yields (hH : ObjsOK β Z w H) (op : BinOp) (t : TypeId) (x y : Operand) (u : TV) (a : Value) (ha : u.conc β Z w a) :
    Yields1 P β Z w (do eqGuard op t x y a (.slice none 0 0); binOp op t a (.slice none 0 0)) (nilTest P H op t u) := by
  have plain : ∀ (r : YR), (∀ c d, ¬ (a = .agg c ∧ (Value.slice none 0 0) = .agg d)) → Yields1 P β Z w (binOp op t a (.slice none 0 0)) r → Yields1 P β Z w (do eqGuard op t x y a (.slice none 0 0); binOp op t a (.slice none 0 0)) r := by
    intro r h1 h obs v' e ho
    obtain ⟨q, hq, hc⟩ := h obs v' e ho
    exact ⟨q, by simp only [Sem.run_bind, guard_ok op t x y a _ h1 (by simp), Result.andThen_ok]; exact hq, hc⟩
  unfold nilTest
  split
  · rename_i e τ bytes v he
    obtain ⟨hu, _⟩ := elemOf_spec he
    refine plain _ (by simp) ?_
    split
    · have hx : a = .slice none 0 0 := by
        have : [a] = [Value.slice none 0 0] := ha
        simpa using this
      subst hx
      have := eql_nil (P := P) (w := w) hu none 0 0
      unfold litOp
      split
      · refine yields_yv (x := .bool true) ?_ rfl
        simp only [binOp, Sem.run_bind, this, Result.andThen_ok, Sem.run_pure]; rfl
      · refine yields_yv (x := .bool false) ?_ rfl
        simp only [binOp, Sem.run_bind, this, Result.andThen_ok, Sem.run_pure]; rfl
      · exact yields_none _
    · split
      · rename_i xs hl
        obtain ⟨A, c, cs, e1, _, _, _, h4⟩ := listOf_conc hH hl ha
        subst e1
        have heq := eql_nil (P := P) (w := w) hu A xs.length c
        have hne : A.isNone = true → xs = [] := by
          intro hA
          cases xs with
          | nil => rfl
          | cons y ys => obtain ⟨ad, e2, _⟩ := h4 (by simp); rw [e2] at hA; cases hA
        split
        · refine yields_yv (x := .bool A.isNone) ?_ ⟨_, rfl, hne⟩
          simp only [binOp, Sem.run_bind, heq, Result.andThen_ok, Sem.run_pure]
        · refine yields_yv (x := .bool (!A.isNone)) ?_ ⟨_, rfl, fun h => hne (by simpa using h)⟩
          simp only [binOp, Sem.run_bind, heq, Result.andThen_ok, Sem.run_pure]
        · exact yields_none _
      · exact yields_none _
  · exact yields_none _

theorem quietOp_yields (hH : ObjsOK β Z w H) (ρ : Operand → Value) (o : Oper) (xs : List TV) (hx : TVs β Z w xs (o.op.operands.toList.map ρ)) :
    ∀ obs r, quietOp P H o.op xs = some (obs, r) → (∀ q ∈ obs, q) → ∃ z, (execOp ρ o).run P w = .ok (.value z) w ∧ r.conc β Z w z := by
  intro obs r h hob
  unfold quietOp at h
  split at h
  case h_1 x u heq =>
    rw [heq] at hx
    obtain ⟨_, _, e, h1, _⟩ := hx; cases e
    exact nilCheck_yields x u ρ o heq h1 obs r h hob
  case h_2 op t a b yt u v heq =>
    rw [heq] at hx
    obtain ⟨_, _, e, h1, _, _, e', h2, _⟩ := hx; cases e; cases e'
    split at h
    · split at h
      · have hb : ρ b = .slice none 0 0 := by
          have : [ρ b] = [Value.slice none 0 0] := h2
          simpa using this
        obtain ⟨z, hz, hc⟩ := nilTest_yields (P := P) hH op t a b u _ h1 obs r h hob
        exact ⟨z, exec_v (by simp only [execOp, heq, hb]) hz, hc⟩
      · cases h
    · obtain ⟨z, hz, hc⟩ := bin_yields (P := P) op t a b u v _ _ h1 h2 obs r h hob
      exact ⟨z, exec_v (by simp only [execOp, heq]) hz, hc⟩
  case h_3 op t a u heq =>
    rw [heq] at hx
    obtain ⟨_, _, e, h1, _⟩ := hx; cases e
    obtain ⟨z, hz, hc⟩ := un_yields (P := P) op u _ h1 obs r h hob
    exact ⟨z, exec_v (by simp only [execOp, heq]) hz, hc⟩
  case h_4 src dst a u heq =>
    rw [heq] at hx
    obtain ⟨_, _, e, h1, _⟩ := hx; cases e
    obtain ⟨z, hz, hc⟩ := conv_yields (P := P) hH src dst u _ h1 obs r h hob
    exact ⟨z, exec_v (by simp only [execOp, heq]) hz, hc⟩
  case h_5 t a f u heq =>
    rw [heq] at hx
    obtain ⟨_, _, e, h1, _⟩ := hx; cases e
    obtain ⟨z, hz, hc⟩ := fieldAddr_yields (P := P) t f u _ h1 obs r h hob
    exact ⟨z, exec_v (by simp only [execOp, heq]) hz, hc⟩
  case h_6 t a f u heq =>
    rw [heq] at hx
    obtain ⟨_, _, e, h1, _⟩ := hx; cases e
    obtain ⟨z, hz, hc⟩ := field_yields (P := P) t f u _ h1 obs r h hob
    exact ⟨z, exec_v (by simp only [execOp, heq]) hz, hc⟩
  case h_7 t a b u v heq =>
    rw [heq] at hx
    obtain ⟨_, _, e, h1, _, _, e', h2, _⟩ := hx; cases e; cases e'
    obtain ⟨z, hz, hc⟩ := indexAddr_yields (P := P) hH t u v _ _ h1 h2 obs r h hob
    exact ⟨z, exec_v (by simp only [execOp, heq]) hz, hc⟩
  case h_8 t a b u v heq =>
    rw [heq] at hx
    obtain ⟨_, _, e, h1, _, _, e', h2, _⟩ := hx; cases e; cases e'
    obtain ⟨z, hz, hc⟩ := index_yields (P := P) t u v _ _ h1 h2 obs r h hob
    exact ⟨z, exec_v (by simp only [execOp, heq]) hz, hc⟩
  case h_9 t a u heq =>
    rw [heq] at hx
    obtain ⟨_, _, e, h1, _⟩ := hx; cases e
    obtain ⟨z, hz, hc⟩ := load_yields (P := P) hH t u _ h1 obs r h hob
    exact ⟨z, exec_v (by simp only [execOp, heq]) hz, hc⟩
  case h_10 t a b ok u v heq =>
    rw [heq] at hx
    obtain ⟨_, _, e, h1, _, _, e', h2, _⟩ := hx; cases e; cases e'
    obtain ⟨z, hz, hc⟩ := lookup_yields (P := P) hH t u v ok _ _ h1 h2 obs r h hob
    exact ⟨z, exec_v (by simp only [execOp, heq]) hz, hc⟩
  case h_11 t a u heq =>
    rw [heq] at hx
    obtain ⟨_, _, e, h1, _⟩ := hx; cases e
    obtain ⟨z, hz, hc⟩ := slice_yields (P := P) hH t u none none _ none none h1 trivial trivial obs r h hob
    exact ⟨z, exec_v (by simp only [execOp, heq]; rfl) hz, hc⟩
  case h_12 t a b u v heq =>
    rw [heq] at hx
    obtain ⟨_, _, e, h1, _, _, e', h2, _⟩ := hx; cases e; cases e'
    obtain ⟨z, hz, hc⟩ := slice_yields (P := P) hH t u (some v) none _ (some _) none h1 h2 trivial obs r h hob
    exact ⟨z, exec_v (by simp only [execOp, heq]; rfl) hz, hc⟩
  case h_13 t a b u v heq =>
    rw [heq] at hx
    obtain ⟨_, _, e, h1, _, _, e', h2, _⟩ := hx; cases e; cases e'
    obtain ⟨z, hz, hc⟩ := slice_yields (P := P) hH t u none (some v) _ none (some _) h1 trivial h2 obs r h hob
    exact ⟨z, exec_v (by simp only [execOp, heq]; rfl) hz, hc⟩
  case h_14 t a b c u v x heq =>
    rw [heq] at hx
    obtain ⟨_, _, e, h1, _, _, e', h2, _, _, e'', h3, _⟩ := hx; cases e; cases e'; cases e''
    obtain ⟨z, hz, hc⟩ := slice_yields (P := P) hH t u (some v) (some x) _ (some _) (some _) h1 h2 h3 obs r h hob
    exact ⟨z, exec_v (by simp only [execOp, heq]; rfl) hz, hc⟩
  case h_15 op' xs' t ps heq =>
    rename_i xs
    rw [heq] at hx
    split at h
    · rename_i l hl
      obtain ⟨z1, z2, z3⟩ := zipParts_spec hl
      have hx' : TVs β Z w xs (ps.toList.map fun p => ρ p.2) := by simpa [Op.operands, Function.comp_def] using hx
      obtain ⟨z, hz, hc⟩ := build_yields (P := P) t l (ps.map fun (i, x) => (i, ρ x)) (by simp [z1]) (by
        rw [z2]
        have : (ps.map fun (i, x) => (i, ρ x)).toList.map (·.2) = ps.toList.map fun p => ρ p.2 := by simp
        rw [this]; exact hx') obs r h hob
      exact ⟨z, exec_v (s := Instr.build t (ps.map fun (i, x) => (i, ρ x))) (by simp only [execOp, heq]) hz, hc⟩
    · cases h
  case h_16 op' xs' f first captured heq =>
    rename_i xs
    split at h
    · rename_i l hf hl
      cases h
      rw [heq] at hx
      have hfe : first = #[] := by rw [← Array.toList_eq_nil_iff]; exact hf
      subst hfe
      have hx' : TVs β Z w xs (captured.toList.map ρ) := by simpa [Op.operands] using hx
      refine ⟨.func (.func f) #[] (captured.map ρ), exec_v (s := Instr.makeFunc (Fn.func f) (#[].map ρ) (captured.map ρ)) (by simp only [execOp, heq]) (by simp [Instr.makeFunc]), captured.toList.map ρ, ?_, capNames_conc hl hx'⟩
      rw [← Array.toList_map]
    · cases h
  case h_17 op' xs' c heq =>
    rename_i xs
    rw [heq] at hx
    have hargs : ∀ b, c.callee = .builtin b → (execOp ρ o) = builtin b c.argTypes o.type (c.args.map fun | .const _ => true | _ => false) (c.args.map ρ) ∧ TVs β Z w xs (c.args.map ρ).toList := by
      intro b hb
      refine ⟨by simp only [execOp, heq, resolve, hb]; rfl, ?_⟩
      simpa [Op.operands, Call.operands, hb] using hx
    split at h
    · rename_i hb
      obtain ⟨he, hv⟩ := hargs _ hb
      split at h
      · rename_i v
        obtain ⟨a, _, e, h1, e2⟩ := hv
        simp only [TVs] at e2
        subst e2
        have e : c.args.map ρ = #[a] := by rw [← Array.toArray_toList (xs := c.args.map ρ), e]
        obtain ⟨z, hz, hc⟩ := len_yields (P := P) hH c.argTypes o.type v a h1 obs r h hob
        refine ⟨z, ?_, hc⟩
        rw [he, e]
        simp [builtin, hz]
      · cases h
    · rename_i hb
      obtain ⟨he, hv⟩ := hargs _ hb
      split at h
      · rename_i k a r'
        split at h
        · rename_i n hn
          cases h
          obtain ⟨y, vs, e, h1, h2⟩ := hv
          have := one_int h1; subst this
          have := minMax_yields (P := P) true k r' a vs n hn h2
          refine ⟨.int k n, ?_, rfl⟩
          rw [he]
          simp only [builtin, Builtin.min_, e]
          simp [this]
        · cases h
      · cases h
    · rename_i hb
      obtain ⟨he, hv⟩ := hargs _ hb
      split at h
      · rename_i k a r'
        split at h
        · rename_i n hn
          cases h
          obtain ⟨y, vs, e, h1, h2⟩ := hv
          have := one_int h1; subst this
          have := minMax_yields (P := P) false k r' a vs n hn h2
          refine ⟨.int k n, ?_, rfl⟩
          rw [he]
          simp only [builtin, Builtin.max_, e]
          simp [this]
        · cases h
      · cases h
    · cases h
  case h_18 => cases h

theorem quiet_yields (hH : ObjsOK β Z w H) (ρ : Operand → Value) (o : Oper) (vs : List SV) (hx : SVs β Z w vs (o.op.operands.toList.map ρ)) :
    ∀ obs r, quiet P H o.op vs = some (obs, r) → (∀ q ∈ obs, q) → ∃ z, (execOp ρ o).run P w = .ok (.value z) w ∧ r.conc β Z w z := by
  intro obs r h hob
  unfold quiet at h
  split at h
  case h_1 a v heq =>
    cases h
    rw [heq] at hx
    obtain ⟨_, _, e, h1, _⟩ := hx; cases e
    exact ⟨_, by simp [execOp, heq], h1⟩
  case h_2 a v heq =>
    cases h
    rw [heq] at hx
    obtain ⟨_, _, e, h1, _⟩ := hx; cases e
    exact ⟨_, by simp [execOp, heq], h1⟩
  case h_3 a i ts heq =>
    rw [heq] at hx
    obtain ⟨_, _, e, ⟨xs, e1, h1⟩, _⟩ := hx; cases e
    split at h
    · rename_i v hv
      cases h
      have : ∀ (ts : List TV) (xs : List Value) (i : Nat), TVs β Z w ts xs → ts[i]? = some v → ∃ x, xs[i]? = some x ∧ v.conc β Z w x := by
        intro ts
        induction ts with
        | nil => intro xs i _ h; simp at h
        | cons t ts ih =>
          intro xs i ⟨x, r, e, h1, h2⟩ h
          subst e
          cases i with
          | zero => simp at h; subst h; exact ⟨x, rfl, h1⟩
          | succ i => simpa using ih r i h2 (by simpa using h)
      obtain ⟨x, hx, hc⟩ := this ts _ _ h1 hv
      refine ⟨x, exec_v (s := Instr.extract (ρ a) i) (by simp only [execOp, heq]) ?_, hc⟩
      have hx' : xs[i]? = some x := by simpa using hx
      rw [e1]; simp [Instr.extract, hx']
    · cases h
  case h_4 op vs' _ _ _ =>
    split at h
    · rename_i ps xs hxs
      split at h
      · rename_i hq
        cases h
        exact quietOp_yields hH ρ o xs (openAll_conc hxs (fun q hq => hob q (by simp [hq])) hx) _ _ hq (fun q hq => hob q (by simp [hq]))
      · cases h
    · cases h

end

end Go.Proofs.Ythjogeodclpafaa.AM
