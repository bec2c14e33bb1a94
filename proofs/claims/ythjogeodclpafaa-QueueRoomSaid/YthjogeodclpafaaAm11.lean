/- Appends, maps; all the operations that make or write memory together. -/
import Derived.Test.YthjogeodclpafaaAm10
set_option linter.unusedVariables false
set_option linter.unusedSimpArgs false
namespace Go.Proofs.Ythjogeodclpafaa.AM
open Go

section
variable {P : Program} {β : List Value} {Z : Nat → Prop} {w : World} {H : List AObj}

theorem append_run {t e : TypeId} {τ : Ty} {bytes : Nat} (he : elemOf? P t = some (e, τ, bytes)) (hz : zeroOK P e (aggOf P e) τ = true) (ty : TypeId) {v x : Value} {n : Nat} {cs : List Value} (hown : w.ownsRow 0 e τ.wd v n cs) {ys : List τ.D} (hx : ReadsL w (EncAll (τ.Enc Z w) ys) ys.length x)
    (hb : ((n + ys.length : Nat) : Int) * bytes ≤ 140737488355328) (hn : ((n + ys.length : Nat) : Int) ≤ 140737488355328) (hsp : Spare τ Z w v (n * τ.wd)) :
    ∃ v' w' news, (Builtin.append_ #[t, t] ty #[v, x]).run P w = .ok v' w' ∧ w'.ownsRow 0 e τ.wd v' (n + ys.length) (cs ++ news) ∧ EncAll (τ.Enc Z w) ys news ∧ w.grownBy w' v.ownBlock ∧ (∀ b, blockOf v' = some b → blockOf v = some b ∨ w.heap.size ≤ b) ∧
      ∀ (g m cap : Nat) (cur : Array Value) (t : TypeId) (o : Nat × Nat), v' = .slice (some ⟨g, 0, none⟩) m cap → w'.heap[g]? = some (.cells cur t o) → ∃ js, EncAll (τ.Enc Z w) js (cur.toList.drop ((n + ys.length) * τ.wd)) := by
  obtain ⟨hu, _, inf, hin, hsz, hne, hby⟩ := elemOf_spec he
  obtain ⟨i', z, hi', hiz, hzr, _, hzc, hze⟩ := zeroOK_spec (Z := Z) (w := w) hz
  rw [hin] at hi'; cases hi'
  have hzs : z.cells.size = τ.wd := by rw [← Array.length_toList, hzc, Ty.Enc.length _ hze]
  obtain ⟨A, c, news, rfl, q1, q2, q3, q4⟩ := hx
  have hnl := EncAll.length (fun _ _ => Ty.Enc.length τ) q3
  have hb' : (n + ys.length) * bytes ≤ 140737488355328 := by
    have h : (((n + ys.length) * bytes : Nat) : Int) ≤ 140737488355328 := by rw [Int.natCast_mul]; exact hb
    omega
  cases A with
  | none =>
    have hy : ys = [] := by
      cases ys with
      | nil => rfl
      | cons y ys => obtain ⟨ad, e1, _⟩ := q4 (by simp); cases e1
    subst hy
    have hn0 : news = [] := q3
    subst hn0
    refine ⟨v, w, [], ?_, by simpa using hown, rfl, ⟨rfl, rfl, rfl, Nat.le_refl _, fun _ _ _ => rfl⟩, fun b hb => .inl hb, hsp⟩
    rcases hown.2 with ⟨rfl, rfl⟩ | ⟨g, cap, cur, rfl, _, hg, h1, h2, _⟩
    · simp [Builtin.append_, run_underlying hu, sizeOf, typeInfo, hin, Builtin.lenOf, Builtin.firstCells]
    · have h1' : n ≤ cap := h1
      simp [Builtin.append_, run_underlying hu, sizeOf, typeInfo, hin, Builtin.lenOf, Builtin.firstCells, h1', storeCells]
  | some ad =>
    have hnews : ∀ j u, news[j]? = some u → w.cell? (ad.add j) = some u := by
      intro j u hj
      by_cases hy : ys.length = 0
      · rw [hy, Nat.zero_mul] at hnl
        have := List.eq_nil_of_length_eq_zero hnl
        subst this; simp at hj
      · obtain ⟨ad', e1, _, h⟩ := q4 hy
        cases e1
        exact h j u hj
    obtain ⟨v', w', hr, ho, hg, _⟩ := run_append_own (P := P) w 0 t ty e inf z τ.wd bytes hu hin hiz hsz hby hzs (by omega) v n cs hown ad ys.length c news hnl hnews (EncAll.one (fun _ _ => Ty.Enc.one τ) q3)
      (by unfold maxLen; omega) hb' (Nat.zero_le _)
    have hnl' : news.length = ys.length * inf.size := by rw [hsz]; exact hnl
    have hzero : ∀ k, EncAll (τ.Enc Z w) (List.replicate k τ.zero) (Builtin.zeroCells z.cells k).toList := fun k => by
      have h1 : (Builtin.zeroCells z.cells k).toList = (madeCells z.cells (k * τ.wd)).toList := by
        unfold Builtin.zeroCells madeCells; rw [hzs]
      rw [h1, made_replicate z.cells τ.wd hzs k, hzc]
      exact EncAll.replicate hze k
    have hzdrop : ∀ (olds : List Value) (k : Nat), olds.length = (n + ys.length) * τ.wd → ∃ js, EncAll (τ.Enc Z w) js ((olds ++ (Builtin.zeroCells z.cells k).toList).drop ((n + ys.length) * τ.wd)) := fun olds k hl => by
      rw [← hl, List.drop_left]
      exact ⟨_, hzero k⟩
    suffices hboth : (∀ b, blockOf v' = some b → blockOf v = some b ∨ w.heap.size ≤ b) ∧ ∀ (g m cap : Nat) (cur : Array Value) (t : TypeId) (o : Nat × Nat), v' = .slice (some ⟨g, 0, none⟩) m cap → w'.heap[g]? = some (.cells cur t o) → ∃ js, EncAll (τ.Enc Z w) js (cur.toList.drop ((n + ys.length) * τ.wd)) from
      ⟨v', w', news, hr, ho, q3, hg, hboth⟩
    rcases hown.2 with ⟨rfl, rfl⟩ | ⟨g, cap, cur, rfl, _, hgg, h1, h2, h3, _⟩
    · by_cases h0 : ys.length = 0
      · have hl0 : news = [] := List.eq_nil_of_length_eq_zero (by rw [hnl, h0, Nat.zero_mul])
        have : (Builtin.append_ #[t, t] ty #[.slice none 0 0, .slice (some ad) ys.length c]).run P w = .ok (.slice none 0 0) w := by
          simp [Builtin.append_, run_underlying hu, sizeOf, typeInfo, hin, Builtin.lenOf, Builtin.firstCells, h0, loadCells, loadCellsFrom]
        have := hr.symm.trans this
        cases this
        exact ⟨(fun b hbb => by cases hbb), (fun _ _ _ _ _ _ e => by cases e)⟩
      · have := run_append_nil (P := P) w t ty e inf z hu hin hiz ad ys.length c news hnl' hnews (by omega) (by omega) (by rw [hby]; simp only [Nat.zero_add] at hb'; omega)
        have := hr.symm.trans this
        cases this
        refine ⟨fun b hbb => ?_, fun g m cap cur t' o e1 e2 => ?_⟩
        · cases hbb
          exact .inr (Nat.le_refl _)
        · cases e1
          rw [show w.heap.size = w.drew.heap.size from rfl, heap_alloc_new] at e2
          cases e2
          rw [Array.toList_append]
          exact hzdrop news _ (by rw [Nat.zero_add]; exact hnl)
    · by_cases hroom : n + ys.length ≤ cap
      · have hfit : n * inf.size + news.length ≤ cur.size := by rw [hnl', h3, hsz, ← Nat.add_mul]; exact Nat.mul_le_mul_right _ hroom
        have := run_append_room (P := P) w t ty e inf hu hin g n cap cur hgg ad ys.length c news hnl' hnews (EncAll.one (fun _ _ => Ty.Enc.one τ) q3) hroom hfit
        have := hr.symm.trans this
        cases this
        refine ⟨fun b hbb => ?_, fun g' m cap' cur' t' o e1 e2 => ?_⟩
        · cases hbb
          exact .inl rfl
        · cases e1
          rw [setRow_heap w g cur _ e _ hgg] at e2
          cases e2
          obtain ⟨js, hj⟩ := hsp g n cap cur _ _ rfl hgg
          refine ⟨js.drop ys.length, ?_⟩
          have hd := hj.drop (fun _ _ => Ty.Enc.length τ) ys.length
          rw [List.drop_drop] at hd
          have hlen : (cur.toList.take (n * inf.size) ++ news).length = (n + ys.length) * τ.wd := by
            rw [List.length_append, List.length_take, Array.length_toList, hnl, hsz, Nat.add_mul]
            rw [hsz] at hfit
            omega
          show EncAll _ _ ((cur.toList.take (n * inf.size) ++ news ++ cur.toList.drop (n * inf.size + news.length)).drop _)
          rw [← hlen, List.drop_left, hnl, hsz]
          exact hd
      · have := run_append_grow (P := P) w t ty e inf z hu hin hiz ⟨g, 0, none⟩ n cap cs (by rw [hsz]; exact hown.1) (hown.cells (g := g) rfl) ad ys.length c news hnl' hnews (by omega) (by omega) (growslice_fits (by omega) (by rw [hby]; exact hb'))
        have := hr.symm.trans this
        cases this
        refine ⟨fun b hbb => ?_, fun g' m cap' cur' t' o e1 e2 => ?_⟩
        · cases hbb
          exact .inr (Nat.le_refl _)
        · cases e1
          rw [show w.heap.size = w.drew.heap.size from rfl, heap_alloc_new] at e2
          cases e2
          rw [Array.toList_append, Array.toList_append]
          exact hzdrop (cs ++ news) _ (by rw [List.length_append, hown.1, hnl, Nat.add_mul])

theorem owns_form {v : Value} {e : TypeId} {k n : Nat} {cs : List Value} (h : w.ownsRow 0 e k v n cs) : ∃ A c, v = .slice A n c := by
  rcases h.2 with ⟨rfl, rfl⟩ | ⟨g, cap, cur, rfl, _⟩
  · exact ⟨_, _, rfl⟩
  · exact ⟨_, _, rfl⟩

theorem ownBlock_of {v : Value} {e : TypeId} {k n : Nat} {cs : List Value} (h : w.ownsRow 0 e k v n cs) : v.ownBlock = blockOf v := by
  rcases h.2 with ⟨rfl, rfl⟩ | ⟨g, cap, cur, rfl, _⟩ <;> rfl

theorem append_does (hh : HeapOK β H Z w) (ts : Array TypeId) (ty : TypeId) (s x : BV) (a b : Value) (ha : s.conc β Z w [a]) (hb : x.conc β Z w [b]) : Does P β H Z w (runsV P (Builtin.append_ ts ty #[a, b])) (appendStep P H ts.toList s x) := by
  intro obs r H' h ho
  unfold appendStep at h
  split at h
  · rename_i t t' hts
    have hts' : ts = #[t, t'] := by rw [← Array.toArray_toList (xs := ts), hts]
    split at h
    · rename_i e τ bytes htt he
      have htt := Nat.eq_of_beq_eq_true htt
      subst htt hts'
      split at h
      · rename_i ys hz hl
        have hx := listOf_conc hh.objsOK hl hb
        split at h
        · rename_i n
          split at h
          · rename_i e' τ' xs hob
            split at h
            · rename_i q _ hee
              have hee := Nat.eq_of_beq_eq_true hee
              subst q hee
              cases h
              obtain ⟨A, m, c, hbn, ee⟩ := ha
              cases ee
              have hget := objAt_get hob (by simp)
              obtain ⟨cs, h1, h2, h3⟩ := hh.objs n _ _ hget hbn
              obtain ⟨v', w', news, hr, hown, hE, hg, hblk, hspn⟩ := append_run (P := P) he hz ty h1 hx (ho _ (.head _)) (ho _ (.tail _ (.head _))) h3
              have hob' := ownBlock_of h1
              have k : Keep (fun b => blockOf (.slice A m c) = some b) w w' := ⟨hg.os, hg.tape, hg.output, hg.size, fun b hb hn => hg.block b hb fun e => hn (by rw [← hob', ← e])⟩
              have kz : ZKeep Z Z w w' := hh.zkeep (k.mono fun q hq => ⟨n, _, _, hget, rfl, hbn, hq⟩) fun _ h => h
              obtain ⟨A', c', rfl⟩ := owns_form hown
              refine ⟨_, w', _, Z, hr, Trans.regrow hh hget rfl hbn k hblk (fun b hb => owns_lt hown hb) ⟨_, ?_, ((h2.app hE).mono fun _ _ => Ty.Enc.mono kz _), fun g m' cap cur t' o e1 e2 => ?_⟩, _, _, _, last_name hh _, rfl⟩
              rotate_left
              · obtain ⟨js, hj⟩ := hspn g m' cap cur t' o e1 e2
                exact ⟨js, by simpa [castL] using hj.mono fun _ _ => Ty.Enc.mono kz _⟩
              simpa [castL] using hown
            · cases h
          · cases h
        · cases h
          have ha' : a = .slice none 0 0 := by simpa [BV.conc] using ha
          subst ha'
          obtain ⟨v', w', news, hr, hown, hE, hg, hblk, hspn⟩ := append_run (P := P) he hz ty (World.ownsRow_nil w 0 e τ.wd) hx (by simpa using ho _ (.head _)) (by simpa using ho _ (.tail _ (.head _))) (fun _ _ _ _ _ _ e => by cases e)
          have k : Keep (fun _ => False) w w' := ⟨hg.os, hg.tape, hg.output, hg.size, fun b hb _ => hg.block b hb (by simp [Value.ownBlock])⟩
          have kz : ZKeep Z Z w w' := hh.zkeep (k.mono fun _ h => h.elim) fun _ h => h
          obtain ⟨A', c', rfl⟩ := owns_form hown
          refine ⟨_, w', _, Z, hr, Trans.new hh _ _ k (fun b _ hb => ⟨?_, owns_lt hown hb⟩) ⟨_, ?_, hE.mono fun _ _ => Ty.Enc.mono kz _, fun g m' cap cur t' o e1 e2 => ?_⟩, _, _, _, last_name hh _, rfl⟩
          rotate_right
          · obtain ⟨js, hj⟩ := hspn g m' cap cur t' o e1 e2
            exact ⟨js, by simpa using hj.mono fun _ _ => Ty.Enc.mono kz _⟩
          · rcases hblk b hb with h | h
            · cases h
            · exact h
          · simpa using hown
        · cases h
      · cases h
    · cases h
  · cases h


/-! ### Maps -/
theorem eqb_same {κ : Ty} {kd : TypeDesc} (hd : (∃ k, κ = .int k ∧ kd = .int k) ∨ (κ = .str ∧ kd = .string)) {a b : κ.D} {u v : Value} (ha : κ.Enc Z w a [u]) (hb : κ.Enc Z w b [v]) :
    Instr.sameNow kd u v = some (κ.eqb a b) ∧ (κ.eqb a b = true → Instr.sameBits 10000 v u = true) := by
  rcases hd with ⟨q, rfl, rfl⟩ | ⟨rfl, rfl⟩
  · have a1 : u = .int q a := by simpa [Ty.Enc] using ha
    have a2 : v = .int q b := by simpa [Ty.Enc] using hb
    rw [a1, a2]
    refine ⟨by simp [Instr.sameNow, Ty.eqb], fun h => ?_⟩
    have h' : a = b := by simpa [Ty.eqb] using h
    subst h'
    simp [Instr.sameBits]
  · have a1 : u = .string a := by simpa [Ty.Enc] using ha
    have a2 : v = .string b := by simpa [Ty.Enc] using hb
    rw [a1, a2]
    refine ⟨by simp [Instr.sameNow, Ty.eqb, beq_toListBytes], fun h => ?_⟩
    have h' : (show ByteArray from a).toList = (show ByteArray from b).toList := by simpa [Ty.eqb] using h
    simp [Instr.sameBits, beq_toListBytes, h']

theorem map_put {κ τ : Ty} {agg : Bool} {kd : TypeDesc} (hd : (∃ k, κ = .int k ∧ kd = .int k) ∨ (κ = .str ∧ kd = .string)) {key : κ.D} {kv : Value} (hk : κ.Enc Z w key [kv]) {x : τ.D} {v : Value} (hv : ∃ cv, v = valOf agg cv ∧ τ.Enc Z w x cv) :
    ∀ (es : List (κ.D × τ.D)) (ms : List MapEntry) (i : Nat), MapEnc agg Z w es ms →
      (∃ idx e v0, Instr.findNow kd kv ms i = some (some (i + idx, v0)) ∧ ms[idx]? = some e ∧ Instr.sameBits 10000 e.key kv = true ∧ MapEnc agg Z w (mapPut key x es) (ms.modify idx fun e => { e with key := kv, val := v })) ∨
      (Instr.findNow kd kv ms i = some none ∧ ∀ c, MapEnc agg Z w (mapPut key x es) (ms ++ [{ key := kv, val := v, born := c }]))
  | [], ms, i, h => by
    simp only [MapEnc] at h; subst h
    exact .inr ⟨rfl, fun c => ⟨_, [], rfl, hk, hv, rfl⟩⟩
  | (k, y) :: r, ms, i, ⟨e, ms', h, h1, h2, hr⟩ => by
    subst h
    obtain ⟨q1, q2⟩ := eqb_same hd hk h1
    cases hq : κ.eqb key k with
    | true =>
      rw [hq] at q1
      refine .inl ⟨0, e, e.val, by simp only [Instr.findNow, q1]; rfl, rfl, q2 hq, ?_⟩
      simp only [mapPut, hq]
      exact ⟨{ e with key := kv, val := v }, ms', rfl, hk, hv, hr⟩
    | false =>
      rw [hq] at q1
      rcases map_put hd hk hv r ms' (i + 1) hr with ⟨idx, e', v0, g1, g2, g3, g4⟩ | ⟨g1, g2⟩
      · refine .inl ⟨idx + 1, e', v0, by simp only [Instr.findNow, q1, g1]; rw [show i + 1 + idx = i + (idx + 1) by omega], by simpa using g2, g3, ?_⟩
        simp only [mapPut, hq]
        exact ⟨e, _, by simp, h1, h2, g4⟩
      · refine .inr ⟨by simp only [Instr.findNow, q1, g1], fun c => ?_⟩
        simp only [mapPut, hq]
        exact ⟨e, _, by simp, h1, h2, g2 c⟩

theorem map_del {κ τ : Ty} {agg : Bool} {kd : TypeDesc} (hd : (∃ k, κ = .int k ∧ kd = .int k) ∨ (κ = .str ∧ kd = .string)) {key : κ.D} {kv : Value} (hk : κ.Enc Z w key [kv]) :
    ∀ (es : List (κ.D × τ.D)) (ms : List MapEntry) (i : Nat), MapEnc agg Z w es ms →
      (∃ idx v0, Instr.findNow kd kv ms i = some (some (i + idx, v0)) ∧ MapEnc agg Z w (mapDel key es) (ms.eraseIdx idx)) ∨
      (Instr.findNow kd kv ms i = some none ∧ MapEnc agg Z w (mapDel key es) ms)
  | [], ms, i, h => by
    simp only [MapEnc] at h; subst h
    exact .inr ⟨rfl, rfl⟩
  | (k, y) :: r, ms, i, ⟨e, ms', h, h1, h2, hr⟩ => by
    subst h
    obtain ⟨q1, q2⟩ := eqb_same hd hk h1
    cases hq : κ.eqb key k with
    | true =>
      rw [hq] at q1
      refine .inl ⟨0, e.val, by simp only [Instr.findNow, q1]; rfl, ?_⟩
      simp only [mapDel, hq]
      exact hr
    | false =>
      rw [hq] at q1
      rcases map_del hd hk r ms' (i + 1) hr with ⟨idx, v0, g1, g4⟩ | ⟨g1, g2⟩
      · refine .inl ⟨idx + 1, v0, by simp only [Instr.findNow, q1, g1]; rw [show i + 1 + idx = i + (idx + 1) by omega], ?_⟩
        simp only [mapDel, hq]
        exact ⟨e, _, by simp, h1, h2, g4⟩
      · refine .inr ⟨by simp only [Instr.findNow, q1, g1], ?_⟩
        simp only [mapDel, hq]
        exact ⟨e, _, rfl, h1, h2, g2⟩

theorem keyTy_desc {kt : TypeId} {κ : Ty} (h : keyTy P kt = some κ) : ∃ d, P.underlying kt = some d ∧ ((∃ k, κ = .int k ∧ d = .int k) ∨ (κ = .str ∧ d = .string)) ∧ ∀ em v w, (Instr.checkKey em 10000 kt v).run P w = .ok () w := by
  rcases keyTy_spec h with ⟨q, e, h'⟩ | ⟨e, h'⟩
  · exact ⟨_, h', .inl ⟨q, e, rfl⟩, fun em v w => checkKey_ok em 9999 kt v (.inl ⟨q, h'⟩)⟩
  · exact ⟨_, h', .inr ⟨e, rfl⟩, fun em v w => checkKey_ok em 9999 kt v (.inr h')⟩

theorem decOne_conc {κ : Ty} {k : TV} {key : κ.D} {b : Value} (h : κ.decOne k = some key) (hb : k.conc β Z w b) : κ.Enc Z w key [b] := by
  cases k with
  | one kv => exact dec_conc (β := β) h (show ConcL β Z w [kv] [b] from ⟨[b], [], rfl, hb, rfl⟩)
  | agg cs => cases h

theorem decAgg_conc {τ : Ty} {agg : Bool} {v : TV} {x : τ.D} {b : Value} (h : τ.decAgg agg v = some x) (hb : v.conc β Z w b) : ∃ cv, b = valOf agg cv ∧ τ.Enc Z w x cv := by
  unfold Ty.decAgg at h
  split at h
  · obtain ⟨vs, rfl, hc⟩ := hb
    exact ⟨vs.toList, by simp [valOf], dec_conc h hc⟩
  · exact ⟨[b], rfl, dec_conc (β := β) h (show ConcL β Z w [_] [b] from ⟨[b], [], rfl, hb, rfl⟩)⟩
  · cases h

theorem setMap_trans (hh : HeapOK β H Z w) {n b : Nat} {o : AObj} (ho : H[n]? = some o) (hl : o.live = true) (hb : β[n]? = some (.map (some b))) {ms : Array MapEntry} {c : Nat} (hg : w.heap[b]? = some (.map ms c)) (ms' : Array MapEntry) (c' : Nat) {agg : Bool} {κ τ : Ty} {es' : List (κ.D × τ.D)}
    (hm : MapEnc agg Z w es' ms'.toList) : (setObj b (.map ms' c')).run P w = .ok () { w with heap := w.heap.setIfInBounds b (.map ms' c') } ∧ Trans β H Z w β (H.set n (.map agg κ τ es')) Z { w with heap := w.heap.setIfInBounds b (.map ms' c') } := by
  have hlt := (Array.getElem?_eq_some_iff.1 hg).1
  refine ⟨by simp [setObj, Sem.run, hg], ?_⟩
  have k : Keep (fun q => o.live = true ∧ blockOf (.map (some b)) = some q) w { w with heap := w.heap.setIfInBounds b (.map ms' c') } :=
    ⟨rfl, rfl, rfl, by simp, fun q _ hq => by
      show (w.heap.setIfInBounds b _)[q]? = _
      rw [Array.getElem?_setIfInBounds_ne (fun e => hq ⟨hl, by rw [e]; rfl⟩)]⟩
  have kz : ZKeep Z Z w { w with heap := w.heap.setIfInBounds b (.map ms' c') } := hh.zkeep (k.mono fun q hq => ⟨n, o, _, ho, hq.1, hb, hq.2⟩) fun _ h => h
  refine Trans.upd hh ho hb (.inl hl) k (by simp) ⟨b, ms', c', rfl, ?_, hm.mono kz⟩
  show (w.heap.setIfInBounds b _)[b]? = _
  simp [hlt]

theorem mapUpdate_does (hh : HeapOK β H Z w) (t : TypeId) (m k v : TV) (a b c : Value) (ha : m.conc β Z w a) (hb : k.conc β Z w b) (hc : v.conc β Z w c) : Does P β H Z w (runsU P (Instr.mapUpdate t a b c)) (mapUpdateStep P H t m k v) := by
  intro obs r H' h ho
  unfold mapUpdateStep at h
  split at h
  · rename_i kt et n hu
    split at h
    · rename_i agg κ τ es κ' hn hkt
      split at h
      · rename_i q key x _ hdec hx
        subst q
        cases h
        obtain ⟨bb, hbb, e⟩ := ha; cases e
        have hget := objAt_get hn (by simp)
        obtain ⟨b', ms, clock, e, hheap, hm⟩ := hh.objs n _ _ hget hbb
        cases e
        obtain ⟨d, hud, hd, hck⟩ := keyTy_desc hkt
        have hkey := decOne_conc hdec hb
        have hg : (getObj bb).run P w = .ok (.map ms clock) w := by simp [getObj, Sem.run, hheap]
        rcases map_put hd hkey (decAgg_conc hx hc) es ms.toList 0 hm with ⟨idx, e, v0, g1, g2, g3, g4⟩ | ⟨g1, g2⟩
        · rw [Nat.zero_add] at g1
          have hlt : idx < ms.size := by simpa using (List.getElem?_eq_some_iff.1 g2).1
          have hek : ms[idx]? = some e := by simpa using g2
          obtain ⟨r1, r2⟩ := setMap_trans (P := P) hh hget rfl hbb hheap (ms.modify idx fun e => { e with key := b, val := c }) clock (by simpa using g4)
          refine ⟨undef, _, β, Z, ⟨?_, rfl⟩, r2, trivial⟩
          simp [Instr.mapUpdate, run_underlying hu, hg, hck, Instr.findKey, run_underlying hud, g1, Instr.keyThatStays, hek, g3, r1]
        · obtain ⟨r1, r2⟩ := setMap_trans (P := P) hh hget rfl hbb hheap (ms.push { key := b, val := c, born := clock }) (clock + 1) (by simpa using g2 clock)
          refine ⟨undef, _, β, Z, ⟨?_, rfl⟩, r2, trivial⟩
          simp [Instr.mapUpdate, run_underlying hu, hg, hck, Instr.findKey, run_underlying hud, g1, r1]
      · cases h
    · cases h
  · cases h

theorem delete_does (hh : HeapOK β H Z w) (ts : Array TypeId) (ty : TypeId) (m k : TV) (a b : Value) (ha : m.conc β Z w a) (hb : k.conc β Z w b) : Does P β H Z w (runsV P (Builtin.delete_ ts ty #[a, b])) (deleteStep P H ts.toList m k) := by
  intro obs r H' h ho
  unfold deleteStep at h
  split at h
  · rename_i t tr n hts
    have h0 : ts[0]? = some t := by rw [← Array.getElem?_toList, hts]; rfl
    split at h
    · rename_i kt et hu
      split at h
      · rename_i agg κ τ es κ' hn hkt
        split at h
        · rename_i q key _ hdec
          subst q
          cases h
          obtain ⟨bb, hbb, e⟩ := ha; cases e
          have hget := objAt_get hn (by simp)
          obtain ⟨b', ms, clock, e, hheap, hm⟩ := hh.objs n _ _ hget hbb
          cases e
          obtain ⟨d, hud, hd, hck⟩ := keyTy_desc hkt
          have hkey := decOne_conc hdec hb
          have hg : (getObj bb).run P w = .ok (.map ms clock) w := by simp [getObj, Sem.run, hheap]
          rcases map_del hd hkey es ms.toList 0 hm with ⟨idx, v0, g1, g4⟩ | ⟨g1, g2⟩
          · rw [Nat.zero_add] at g1
            obtain ⟨r1, r2⟩ := setMap_trans (P := P) hh hget rfl hbb hheap (ms.eraseIdxIfInBounds idx) clock (by simpa using g4)
            refine ⟨.tuple #[], _, β, Z, ?_, r2, trivial⟩
            simp [runsV, Builtin.delete_, h0, run_underlying hu, hg, hck, Instr.findKey, run_underlying hud, g1, r1]
          · obtain ⟨r1, r2⟩ := setMap_trans (P := P) hh hget rfl hbb hheap ms clock g2
            refine ⟨.tuple #[], _, β, Z, ?_, r2, trivial⟩
            simp [runsV, Builtin.delete_, h0, run_underlying hu, hg, hck, Instr.findKey, run_underlying hud, g1, r1]
        · cases h
      · cases h
    · cases h
  · cases h


/-! ### All together -/
/-- What an operation leaves in its temporary. -/
def runsOp (P : Program) (ρ : Operand → Value) (o : Oper) (w : World) (x : Value) (w' : World) : Prop :=
  (execOp ρ o).run P w = .ok (.value x) w' ∨ ((execOp ρ o).run P w = .ok .skip w' ∧ x = undef)

theorem does_v {ρ : Operand → Value} {o : Oper} {s : Sem Value} {r : ER} (h : execOp ρ o = (do pure (.value (← s)))) (hs : Does P β H Z w (runsV P s) r) : Does P β H Z w (runsOp P ρ o) r := by
  intro obs v H' e ho
  obtain ⟨x, w', β', Z', h1, h2, h3⟩ := hs obs v H' e ho
  exact ⟨x, w', β', Z', .inl (by rw [h]; simp [show s.run P w = .ok x w' from h1]), h2, h3⟩

theorem does_u {ρ : Operand → Value} {o : Oper} {s : Sem Unit} {r : ER} (h : execOp ρ o = (do s; pure .skip)) (hs : Does P β H Z w (runsU P s) r) : Does P β H Z w (runsOp P ρ o) r := by
  intro obs v H' e ho
  obtain ⟨x, w', β', Z', ⟨h1, h1'⟩, h2, h3⟩ := hs obs v H' e ho
  exact ⟨x, w', β', Z', .inr ⟨by rw [h]; simp [h1], h1'⟩, h2, h3⟩

theorem effOp_does (hh : HeapOK β H Z w) (ρ : Operand → Value) (o : Oper) (xs : List TV) (hx : TVs β Z w xs (o.op.operands.toList.map ρ)) : Does P β H Z w (runsOp P ρ o) (effOp P H o.op xs) := by
  unfold effOp
  split
  case h_1 t heq => exact does_v (s := Instr.alloc t true (.tuple #[])) (by simp only [execOp, heq]) (alloc_does hh t)
  case h_2 t a v heq =>
    rw [heq] at hx
    obtain ⟨_, _, e, h1, _⟩ := hx; cases e
    exact does_v (s := Instr.box t (ρ a)) (by simp only [execOp, heq]) (box_does hh t v _ h1)
  case h_3 t len ps heq =>
    rename_i vs
    rw [heq] at hx
    split
    · rename_i l hl
      obtain ⟨z1, z2, z3⟩ := zipParts_spec hl
      refine does_v (s := Instr.buildSlice t len (ps.map fun (i, x) => (i, ρ x))) (by simp only [execOp, heq]) (buildSlice_does hh t len l _ ?_ ?_)
      · simp [z1]
      · rw [z2]
        have : (ps.map fun (i, x) => (i, ρ x)).toList.map (·.2) = (Op.buildSlice t len ps).operands.toList.map ρ := by simp [Op.operands]
        rw [this]; exact hx
    · exact does_none
  case h_4 t heq => exact does_v (s := Instr.makeMap t none) (by simp only [execOp, heq]; rfl) (makeMap_does hh t)
  case h_5 t a b u v heq =>
    rw [heq] at hx
    obtain ⟨_, _, e, h1, _, _, e', h2, _⟩ := hx; cases e; cases e'
    exact does_v (s := Instr.makeSlice t (ρ a) (ρ b)) (by simp only [execOp, heq]) (makeSlice_does hh t u v _ _ h1 h2)
  case h_6 t a b u v heq =>
    rw [heq] at hx
    obtain ⟨_, _, e, h1, _, _, e', h2, _⟩ := hx; cases e; cases e'
    exact does_u (s := Instr.storeAt t (ρ a) (ρ b)) (by simp only [execOp, heq]) (store_does hh t u v _ _ h1 h2)
  case h_7 t a b c u v x heq =>
    rw [heq] at hx
    obtain ⟨_, _, e, h1, _, _, e', h2, _, _, e'', h3, _⟩ := hx; cases e; cases e'; cases e''
    exact does_u (s := Instr.mapUpdate t (ρ a) (ρ b) (ρ c)) (by simp only [execOp, heq]) (mapUpdate_does hh t u v x _ _ _ h1 h2 h3)
  case h_8 t a b c u v x heq =>
    rw [heq] at hx
    obtain ⟨_, _, e, h1, _, _, e', h2, _, _, e'', h3, _⟩ := hx; cases e; cases e'; cases e''
    exact does_u (s := Instr.mapUpdate t (ρ a) (ρ b) (ρ c)) (by simp only [execOp, heq]) (mapUpdate_does hh t u v x _ _ _ h1 h2 h3)
  case h_9 op' xs' c heq =>
    rename_i xs
    rw [heq] at hx
    have hargs : ∀ b, c.callee = .builtin b → (execOp ρ o) = builtin b c.argTypes o.type (c.args.map fun | .const _ => true | _ => false) (c.args.map ρ) ∧ TVs β Z w xs (c.args.map ρ).toList := by
      intro b hb
      refine ⟨by simp only [execOp, heq, resolve, hb]; rfl, ?_⟩
      simpa [Op.operands, Call.operands, hb] using hx
    split
    · rename_i hb
      obtain ⟨he, hv⟩ := hargs _ hb
      split
      · rename_i s x
        obtain ⟨a, _, e, h1, b, _, e2, h2, e3⟩ := hv
        simp only [TVs] at e3
        subst e2 e3
        have e : c.args.map ρ = #[a, b] := by rw [← Array.toArray_toList (xs := c.args.map ρ), e]
        exact does_v (s := Builtin.append_ c.argTypes o.type #[a, b]) (by rw [he, e]; rfl) (append_does hh c.argTypes o.type s x a b h1 h2)
      · exact does_none
    · rename_i hb
      obtain ⟨he, hv⟩ := hargs _ hb
      split
      · rename_i s x
        obtain ⟨a, _, e, h1, b, _, e2, h2, e3⟩ := hv
        simp only [TVs] at e3
        subst e2 e3
        have e : c.args.map ρ = #[a, b] := by rw [← Array.toArray_toList (xs := c.args.map ρ), e]
        exact does_v (s := Builtin.delete_ c.argTypes o.type #[a, b]) (by rw [he, e]; rfl) (delete_does hh c.argTypes o.type s x a b h1 h2)
      · exact does_none
    · exact does_none
  case h_10 => exact does_none

end

end Go.Proofs.Ythjogeodclpafaa.AM
