/- The operations that make or write memory, the rest: slices, stores, appends, maps. -/
import Derived.Test.YthjogeodclpafaaAm9
import Derived.Laws.MakeOwn
import Derived.Laws.OwnMore
set_option linter.unusedVariables false
set_option linter.unusedSimpArgs false
namespace Go.Proofs.Ythjogeodclpafaa.AM
open Go

section
variable {P : Program} {β : List Value} {Z : Nat → Prop} {w : World} {H : List AObj}

/-! ### Lists -/
theorem splice_mid (A B C : List Value) (o : Nat) (nv : List Value) (h : o + nv.length ≤ B.length) : splice (A ++ (B ++ C)) (A.length + o) nv = A ++ (splice B o nv ++ C) := by
  unfold splice
  rw [show A.length + o + nv.length = A.length + (o + nv.length) by omega, List.take_length_add_append, List.drop_length_add_append, List.take_append_of_le_length (by omega), List.drop_append_of_le_length h]
  simp only [List.append_assoc]

theorem splice_length (cs : List Value) (o : Nat) (nv : List Value) (h : o + nv.length ≤ cs.length) : (splice cs o nv).length = cs.length := by
  unfold splice; simp; omega

theorem splice_drop {cs nv : List Value} {o N : Nat} (h1 : o + nv.length ≤ N) (h2 : N ≤ cs.length) : (splice cs o nv).drop N = cs.drop N := by
  unfold splice
  rw [List.drop_append, List.drop_eq_nil_of_le (by simp; omega), List.nil_append, List.drop_drop]
  congr 1
  simp
  omega

theorem splice_take {cs nv : List Value} {o N : Nat} (h1 : o + nv.length ≤ N) (h2 : N ≤ cs.length) : (splice cs o nv).take N = splice (cs.take N) o nv := by
  have hA : (cs.take N).length = N := by simp; omega
  have h := splice_mid [] (cs.take N) (cs.drop N) o nv (by rw [hA]; exact h1)
  simp only [List.nil_append, List.take_append_drop, List.length_nil, Nat.zero_add] at h
  rw [h]
  have hl := splice_length (cs.take N) o nv (by rw [hA]; exact h1)
  rw [hA] at hl
  exact List.take_left' hl

theorem made_replicate (z : Array Value) (k : Nat) (hz : z.size = k) (n : Nat) : (madeCells z (n * k)).toList = (List.replicate n z.toList).flatten := by
  subst hz
  have key : ∀ n, (List.range (n * z.size)).map (fun i => z[i % z.size]!) = (List.replicate n z.toList).flatten := by
    intro n
    induction n with
    | zero => simp
    | succ n ih =>
      rw [Nat.add_mul, Nat.one_mul, Nat.add_comm, List.range_add, List.map_append, List.map_map, List.replicate_succ, List.flatten_cons]
      congr 1
      · apply List.ext_getElem
        · simp
        · intro i h1 h2
          have : i < z.size := by simpa using h2
          simp [Nat.mod_eq_of_lt this, this]
      · rw [← ih]
        apply List.map_congr_left
        intro i _
        simp
  rw [← key]
  simp [madeCells]

theorem fill_seq (k : Nat) : ∀ (vs : List Value) (i : Nat) (pre : List Value) (cs : Array Value), (∀ v ∈ vs, v.cells.size = k) → pre.length = i * k → (i + vs.length) * k ≤ cs.size → cs.toList.take (i * k) = pre →
    ∃ r, Instr.fill (fun i => some (i * k, k)) cs ((vs.zipIdx i).map fun x => (x.2, x.1)) = some r ∧ r.size = cs.size ∧ r.toList.take ((i + vs.length) * k) = pre ++ vs.flatMap (fun v => v.cells.toList) := by
  intro vs
  induction vs with
  | nil => intro i pre cs _ hp hs ht; exact ⟨cs, by simp [Instr.fill], rfl, by simpa using ht⟩
  | cons v vs ih =>
    intro i pre cs hv hp hs ht
    have hvk := hv v (by simp)
    have hle : i * k + k ≤ cs.size := by
      have : (i + 1) * k ≤ (i + (v :: vs).length) * k := Nat.mul_le_mul_right _ (by simp)
      rw [Nat.add_mul, Nat.one_mul] at this
      omega
    simp only [List.zipIdx_cons, List.map_cons, Instr.fill, hvk]
    rw [if_neg (by simp; omega)]
    have hfold : (v.cells.zipIdx.foldl (fun cs (x : Value × Nat) => cs.setIfInBounds (i * k + x.2) x.1) cs).toList = cs.toList.take (i * k) ++ v.cells.toList ++ cs.toList.drop (i * k + k) := by
      rw [← Array.foldl_toList, Array.toList_zipIdx]
      have := fold_set v.cells.toList 0 (i * k) cs (by simp [hvk]; omega)
      simpa [hvk] using this
    generalize hcs' : v.cells.zipIdx.foldl (fun cs (x : Value × Nat) => cs.setIfInBounds (i * k + x.2) x.1) cs = cs' at *
    have hsz : cs'.size = cs.size := by
      rw [← Array.length_toList, hfold]; simp [hvk]; omega
    have := ih (i + 1) (pre ++ v.cells.toList) cs' (fun u hu => hv u (by simp [hu])) (by simp [hp, hvk, Nat.add_mul]) (by rw [hsz]; simp at hs; rw [show i + 1 + vs.length = i + (vs.length + 1) by omega]; exact hs)
      (by rw [hfold, ht, Nat.add_mul, Nat.one_mul, List.take_append_of_le_length (by simp [hp, hvk]), List.take_of_length_le (by simp [hp, hvk])])
    obtain ⟨r, h1, h2, h3⟩ := this
    exact ⟨r, h1, by rw [h2, hsz], by rw [show i + (v :: vs).length = i + 1 + vs.length by simp; omega, h3]; simp⟩

theorem elemsGo_conc {τ : Ty} : ∀ (l : List (Nat × TV)) (i : Nat) (H : List AObj) (Z : Nat → Prop) (xs : List τ.D) (H' : List AObj) (vs : List Value), elemsGo τ i l H = some (xs, H') → HeapOK β H Z w → TVs β Z w (l.map (·.2)) vs →
    ∃ Z', Trans β H Z w β H' Z' w ∧ EncAll (τ.Enc Z' w) xs (vs.flatMap fun v => v.cells.toList) ∧ xs.length = l.length ∧ l.map (·.1) = (List.range' i l.length) ∧ ∀ v ∈ vs, v.cells.size = τ.wd
  | [], i, H, Z, xs, H', vs, h, hh, hv => by
    simp only [elemsGo, Option.some.injEq, Prod.mk.injEq] at h
    obtain ⟨rfl, rfl⟩ := h
    simp only [List.map_nil, TVs] at hv
    subst hv
    exact ⟨Z, Trans.refl hh, rfl, rfl, rfl, by simp⟩
  | (j, v) :: r, i, H, Z, xs, H', vs, h, hh, hv => by
    obtain ⟨x, vs', e, h1, h2⟩ := hv
    subst e
    simp only [elemsGo] at h
    split at h
    · rename_i cs H1 hj hf
      have hj := Nat.eq_of_beq_eq_true hj
      subst hj
      obtain ⟨Z1, t1, k1⟩ := frzGo_conc v.cells H Z _ hh (TV.cells_conc h1)
      rw [hf] at t1 k1
      split at h
      · rename_i y hy
        split at h
        · rename_i ys H2 hr
          cases h
          obtain ⟨Z2, t2, k2, k3, k4, k5⟩ := elemsGo_conc r (i + 1) H1 Z1 ys _ vs' hr t1.heap (h2.trans hh t1)
          have ey := dec_conc hy k1
          have ey' := ey.mono (t2.zkeep t1.heap)
          refine ⟨Z2, t1.trans t2, ⟨_, _, by simp, ey', k2⟩, by simp [k3], by simp [k4, List.range'_succ], fun u hu => ?_⟩
          rcases List.mem_cons.1 hu with rfl | hu
          · have := Ty.Enc.length _ ey; simpa using this
          · exact k5 u hu
        · cases h
      · cases h
    · cases h


theorem makeSlice_does (hh : HeapOK β H Z w) (t : TypeId) (l c : TV) (a b : Value) (ha : l.conc β Z w a) (hb : c.conc β Z w b) : Does P β H Z w (runsV P (Instr.makeSlice t a b)) (makeSliceStep P H t l c) := by
  intro obs v H' h ho
  unfold makeSliceStep at h
  split at h
  · rename_i e τ bytes k n k' m he
    split at h
    · rename_i hz
      cases h
      have := one_int ha; subst this
      have := one_int hb; subst this
      have h1 : 0 ≤ n := ho _ (.head _)
      have h2 : n = m := ho _ (.tail _ (.head _))
      have h3 : (bytes : Int) * n ≤ 140737488355328 := ho _ (.tail _ (.tail _ (.head _)))
      have h4 : n ≤ 140737488355328 := ho _ (.tail _ (.tail _ (.tail _ (.head _))))
      subst h2
      obtain ⟨hu, _, inf, hin, hsz, hne, hby⟩ := elemOf_spec he
      obtain ⟨i', z, hi', hiz, _, _, hzc, hze⟩ := zeroOK_spec (Z := Z) (w := w) hz
      rw [hin] at hi'; cases hi'
      obtain ⟨q, rfl⟩ := Int.eq_ofNat_of_zero_le h1
      have h3'' : ((inf.bytes * q : Nat) : Int) ≤ 140737488355328 := by rw [hby, Int.natCast_mul]; exact h3
      have h3' : inf.bytes * q ≤ 140737488355328 := by omega
      obtain ⟨w', hr, hown, hg⟩ := run_make_full (P := P) w 0 t e inf z τ.wd hu hin hiz hsz k k' q (by omega) (by unfold maxLen; omega) (Nat.zero_le _)
      have hzs : z.cells.size = τ.wd := by rw [← Array.length_toList, hzc, Ty.Enc.length _ hze]
      rw [made_replicate z.cells τ.wd hzs q, hzc] at hown
      have kk : Keep (fun _ => False) w w' := ⟨hg.os, hg.tape, hg.output, hg.size, fun b hb _ => hg.block b hb (by simp)⟩
      refine ⟨_, w', β ++ [.slice (some ⟨w.heap.size, 0, none⟩) q q], Z, hr, ?_, _, _, _, last_name hh _, rfl⟩
      have hrow : ObjOK (β ++ [.slice (some ⟨w.heap.size, 0, none⟩) q q]) Z w' (.slice (some ⟨w.heap.size, 0, none⟩) q q) (.row e τ (List.replicate ((q : Int)).toNat τ.zero)) := by
        refine ⟨_, by rw [List.length_replicate, Int.toNat_natCast]; exact hown, ?_, ?_⟩
        rotate_left
        · intro g n cap cur t o e1 hg1
          rcases hown.2 with ⟨e2, _⟩ | ⟨g', cap', cur', e2, _, hg2, _, _, hsz', _⟩
          · cases e2
          · rw [e2] at e1; cases e1
            rw [hg2] at hg1; cases hg1
            cases e2
            refine ⟨[], ?_⟩
            show cur.toList.drop _ = []
            rw [List.length_replicate, Int.toNat_natCast]
            exact List.drop_of_length_le (by rw [Array.length_toList, hsz']; exact Nat.le_refl _)
        rw [Int.toNat_natCast]
        exact EncAll.replicate (R := τ.Enc Z w') (x := τ.zero) (cs := τ.zcells) (zero_enc τ) q
      refine Trans.new hh _ _ kk (fun b _ hb => ?_) hrow
      cases hb
      refine ⟨Nat.le_refl _, ?_⟩
      rcases hown.2 with ⟨e, _⟩ | ⟨g, cap, cur, e, _, hgg, _⟩
      · cases e
      · cases e; exact (Array.getElem?_eq_some_iff.1 hgg).1
    · cases h
  · cases h

theorem buildSlice_does (hh : HeapOK β H Z w) (t : TypeId) (len : Nat) (l : List (Nat × TV)) (parts : Array (Nat × Value)) (hidx : parts.toList.map (·.1) = l.map (·.1)) (hv : TVs β Z w (l.map (·.2)) (parts.toList.map (·.2))) :
    Does P β H Z w (runsV P (Instr.buildSlice t len parts)) (buildSliceStep P H t len l) := by
  intro obs v H' h ho
  unfold buildSliceStep at h
  split at h
  · rename_i e τ by_ he
    split at h
    · rename_i xs H1 hlen hbig hz hel
      cases h
      have hlen := Nat.eq_of_beq_eq_true hlen
      have hbig := Nat.le_of_ble_eq_true hbig
      obtain ⟨hu, _, inf, hin, hsz, hne, hby⟩ := elemOf_spec he
      obtain ⟨i', z, hi', hiz, hzr, _, hzc, hze⟩ := zeroOK_spec (Z := Z) (w := w) hz
      rw [hin] at hi'; cases hi'
      obtain ⟨Z1, t1, hE, hxl, hix, hcs⟩ := elemsGo_conc l 0 H Z xs H1 _ hel hh hv
      have hzs : z.cells.size = τ.wd := by rw [← Array.length_toList, hzc, Ty.Enc.length _ hze]
      have hpl : parts.toList.length = len := by rw [← hlen, ← List.length_map (f := (·.1)) (as := parts.toList), hidx, List.length_map]
      have hparts : parts.toList = ((parts.toList.map (·.2)).zipIdx 0).map fun x => (x.2, x.1) := by
        have h1 : parts.toList.map (·.1) = List.range' 0 (parts.toList.map (·.2)).length := by rw [hidx, hix]; congr 1; rw [List.length_map, hpl, hlen]
        generalize parts.toList = ps at h1
        generalize 0 = k at h1
        induction ps generalizing k with
        | nil => rfl
        | cons p ps ih =>
          obtain ⟨i, v⟩ := p
          simp only [List.map_cons, List.length_cons, List.range'_succ, List.cons.injEq, List.length_map] at h1
          simp only [List.map_cons, List.zipIdx_cons]
          rw [← ih (k + 1) (by simpa using h1.2), h1.1]
      have hmade : (madeCells z.cells (len * inf.size)).size = len * τ.wd := by rw [size_madeCells, hsz]
      obtain ⟨r, hf, hrs, hrt⟩ := fill_seq τ.wd (parts.toList.map (·.2)) 0 [] (madeCells z.cells (len * inf.size)) hcs (by simp) (by rw [hmade]; simp [hpl]) (by simp)
      have hr : r.toList = (parts.toList.map (·.2)).flatMap fun v => v.cells.toList := by
        rw [← List.nil_append ((parts.toList.map (·.2)).flatMap _), ← hrt, List.take_of_length_le]
        rw [Array.length_toList, hrs, hmade]; simp [hpl]
      have hrow : (w.alloc (.cells r e)).ownsRow 0 e τ.wd (.slice (some ⟨w.heap.size, 0, none⟩) len len) len r.toList :=
        World.ownsRow_lit w r len (Nat.zero_le _) (by have : len * 1 ≤ len * τ.wd := Nat.mul_le_mul_left _ (by omega)
                                                      unfold maxLen; omega) (by rw [hrs, hmade])
      refine ⟨.slice (some ⟨w.heap.size, 0, none⟩) len len, w.alloc (.cells r e), β ++ [.slice (some ⟨w.heap.size, 0, none⟩) len len], Z1, ?_, t1.trans ?_, _, _, _, last_name t1.heap _, rfl⟩
      · have hbig' : ¬ len * inf.size > 2 ^ 24 := by rw [hsz]; omega
        have hf' : Instr.fill (fun i => some (i * inf.size, inf.size)) (madeCells z.cells (len * inf.size)) parts.toList = some r := by rw [hparts, hsz]; rw [hsz] at hf; exact hf
        by_cases h0 : len * inf.size = 0
        · have hm : ∀ z' : Array Value, madeCells z' (len * inf.size) = madeCells z.cells (len * inf.size) := fun z' => by rw [h0]; simp [madeCells]
          have hf2 := hm #[]
          rw [← hf2] at hf'
          unfold madeCells at hf'
          simp only [runsV, Instr.buildSlice, Sem.run_bind, run_underlying hu, Result.andThen_ok, run_sizeOf' hin, Sem.run_ite, if_neg hbig', Sem.run_pure, if_pos h0, hf']
          simp [newRow]
        · unfold madeCells at hf'
          simp only [runsV, Instr.buildSlice, Sem.run_bind, run_underlying hu, Result.andThen_ok, run_sizeOf' hin, Sem.run_ite, if_neg hbig', Sem.run_pure, if_neg h0, hzr, hf']
          simp [newRow]
      · refine Trans.new t1.heap _ _ (Keep.allocW _ _ _) (fun b _ hb => ?_) ?_
        · cases hb; exact ⟨Nat.le_refl _, by simp⟩
        · have hxl' : xs.length = len := by rw [hxl, hlen]
          refine ⟨r.toList, by rw [hxl']; exact hrow, ?_, ?_⟩
          rotate_left
          · intro g n cap cur t o e1 hg1
            cases e1
            rw [heap_alloc_new] at hg1
            cases hg1
            refine ⟨[], ?_⟩
            show r.toList.drop _ = []
            rw [hxl']
            exact List.drop_of_length_le (by rw [Array.length_toList, hrs, hmade]; exact Nat.le_refl _)
          rw [hr]
          exact hE.mono fun _ _ => Ty.Enc.mono ⟨fun _ h => h, fun b hb => heap_alloc_old _ _ _ (t1.heap.zlt b hb)⟩ τ
    · cases h
  · cases h


/-! ### Stores -/
theorem EncAll.set {α : Type} {R : α → List Value → Prop} {k : Nat} (hR : ∀ x cs, R x cs → cs.length = k) {x : α} {es : List Value} (hx : R x es) : ∀ (i : Nat) {xs : List α} {cs : List Value}, EncAll R xs cs → i < xs.length → EncAll R (xs.set i x) (splice cs (i * k) es)
  | 0, y :: xs, _, ⟨c1, c2, e, h1, h2⟩, _ => by
    subst e
    refine ⟨es, c2, ?_, hx, h2⟩
    unfold splice
    rw [Nat.zero_mul, List.take_zero, Nat.zero_add, hR _ _ hx, ← hR _ _ h1, List.drop_left]; rfl
  | i + 1, y :: xs, _, ⟨c1, c2, e, h1, h2⟩, hi => by
    subst e
    have ih := EncAll.set hR hx i h2 (by simpa using hi)
    refine ⟨c1, splice c2 (i * k) es, ?_, h1, ih⟩
    unfold splice
    rw [Nat.add_mul, Nat.one_mul, Nat.add_comm (i * k), ← hR _ _ h1, List.take_length_add_append, show c1.length + i * c1.length + es.length = c1.length + (i * c1.length + es.length) by omega, List.drop_length_add_append]
    simp
  | _, [], _, _, hi => by simp at hi

theorem EncAll.at_ {α : Type} {R : α → List Value → Prop} {k : Nat} (hR : ∀ x cs, R x cs → cs.length = k) (z : α) {i : Nat} {xs : List α} {cs : List Value} (h : EncAll R xs cs) (hi : i < xs.length) : R (xs.getD i z) ((cs.drop (i * k)).take k) := by
  obtain ⟨es, h1, h2⟩ := h.getD hR z i hi
  have hl := hR _ _ h1
  have : es = (cs.drop (i * k)).take k := by
    apply List.ext_getElem?
    intro j
    rw [List.getElem?_take, List.getElem?_drop]
    split
    · rename_i hj
      rw [List.getElem?_eq_getElem (by rw [hl]; exact hj), h2 j _ (List.getElem?_eq_getElem (by rw [hl]; exact hj))]
    · rw [List.getElem?_eq_none (by rw [hl]; omega)]
  rw [← this]; exact h1

/-- A write within an element. -/
theorem splice_elem {cs nv : List Value} {i k off n : Nat} (hl : cs.length = n * k) (hi : i < n) (ho : off + nv.length ≤ k) : splice cs (i * k + off) nv = splice cs (i * k) (splice ((cs.drop (i * k)).take k) off nv) := by
  have hik : i * k + k ≤ cs.length := by rw [hl, ← Nat.succ_mul]; exact Nat.mul_le_mul_right _ hi
  have hA : (cs.take (i * k)).length = i * k := by simp; omega
  have hB : ((cs.drop (i * k)).take k).length = k := by simp; omega
  have hcs : cs = cs.take (i * k) ++ ((cs.drop (i * k)).take k ++ cs.drop (i * k + k)) := by
    rw [← List.drop_drop, List.take_append_drop, List.take_append_drop]
  have h1 := splice_mid (cs.take (i * k)) ((cs.drop (i * k)).take k) (cs.drop (i * k + k)) off nv (by rw [hB]; exact ho)
  rw [hA, ← hcs] at h1
  rw [h1]
  have hsl := splice_length ((cs.drop (i * k)).take k) off nv (by rw [hB]; exact ho)
  show _ = cs.take (i * k) ++ splice ((cs.drop (i * k)).take k) off nv ++ cs.drop (i * k + (splice ((cs.drop (i * k)).take k) off nv).length)
  rw [hsl, hB, List.append_assoc]

/-- What a store of cells does to a block. -/
theorem run_storeCells_block {b o : Nat} {t : TypeId} {cur : Array Value} {nv : List Value} (hg : w.heap[b]? = some (.cells cur t (0, 0))) (hl : o + nv.length ≤ cur.size) (h1 : ∀ u ∈ nv, u.oneCell' = true) :
    ∃ w', (storeCells ⟨b, o, none⟩ nv).run P w = .ok () w' ∧ w'.heap[b]? = some (.cells (splice cur.toList o nv).toArray t (0, 0)) ∧ w'.heap.size = w.heap.size ∧ ∀ L : Nat → Prop, L b → Keep L w w' := by
  have := run_storeCells_at P b o t nv 0 cur w hg (by simpa using hl) h1
  simp only [Nat.add_zero] at this
  refine ⟨_, this, setRow_heap w b cur _ t _ hg, by simp, fun L hL => ⟨rfl, rfl, rfl, by simp, fun k _ hk => setRow_other w b k _ fun e => hk (e ▸ hL)⟩⟩

theorem run_storeAt {t : TypeId} {agg : Bool} {sz : Nat} (hk : kindOf P t = some (agg, sz)) {b o : Nat} {a : Value} (ha : a.cells.size = sz) {w' : World} (hr : (storeCells ⟨b, o, none⟩ a.cells.toList).run P w = .ok () w') :
    (Instr.storeAt t (.pointer (some ⟨b, o, none⟩)) a).run P w = .ok () w' := by
  obtain ⟨_, hs⟩ := kindOf_one (P := P) (w := w) hk
  simp only [Instr.storeAt, Instr.sureAddr, Sem.run_bind, Sem.run_pure, Result.andThen_ok, storeVar, hs, ha]
  simp [hr]

theorem runAt_split {off m : Nat} {cs : List BV} {τ : Ty} {xs : List τ.D} {vs : List Value} (h : runAt off cs = some (m, ⟨τ, xs⟩)) (hc : ConcL β Z w cs vs) :
    xs.length = m ∧ ∃ A B C, vs = A ++ (B ++ C) ∧ A.length = off ∧ B.length = m * τ.wd ∧ EncAll (τ.Enc Z w) xs B := by
  unfold runAt at h
  split at h
  · rename_i hd
    cases h
    obtain ⟨a, b, e, hl, hb⟩ := dropW_conc hd hc
    obtain ⟨v1, v2, e2, h1, h2⟩ := hb
    subst hl e e2
    exact ⟨h1.1, a, v1, v2, rfl, rfl, by rw [EncAll.length (fun _ _ => Ty.Enc.length τ) h1.2, h1.1], h1.2⟩
  · cases h

theorem patchRun_conc {off m : Nat} {cs cs' : List BV} {τ : Ty} {xs : List τ.D} {A B B' C : List Value} (h : patchRun off m τ xs cs = some cs') (hc : ConcL β Z w cs (A ++ (B ++ C))) (hA : A.length = off) (hB : B.length = m * τ.wd) (hm : xs.length = m) (hx : EncAll (τ.Enc Z w) xs B') :
    ConcL β Z w cs' (A ++ (B' ++ C)) := by
  unfold patchRun at h
  split at h
  · rename_i a b ha hb
    cases h
    obtain ⟨u1, u2, e1, l1, c1⟩ := takeW_conc ha hc
    obtain ⟨u3, u4, e2, l2, c2⟩ := dropW_conc hb hc
    have hu1 : u1 = A := (List.append_inj e1 (by rw [l1, hA])).1.symm
    have hu4 : u4 = C := by
      rw [← List.append_assoc] at e2
      exact (List.append_inj e2 (by rw [l2, List.length_append, hA, hB])).2.symm
    subst hu1 hu4
    exact c1.app ⟨B', u4, rfl, ⟨hm, hx⟩, c2⟩
  · cases h

theorem storeAt_does (hh : HeapOK β H Z w) {t : TypeId} {agg : Bool} {sz : Nat} (hk : kindOf P t = some (agg, sz)) {p : BV} {news : List BV} {x a : Value} (hp : p.conc β Z w [x]) (hn : ConcL β Z w news a.cells.toList) {obs : List Prop} {H' : List AObj}
    (h : storeAt P H sz p news = some (obs, H')) (ho : ∀ q ∈ obs, q) : ∃ w' Z', (Instr.storeAt t x a).run P w = .ok () w' ∧ Trans β H Z w β H' Z' w' := by
  have hones := hn.ones
  unfold storeAt at h
  split at h
  · rename_i n off
    split at h
    · rename_i tt cs hob
      split at h
      · rename_i cs' hw hpa
        cases h
        have hw := Nat.eq_of_beq_eq_true hw
        obtain ⟨b, hb, e⟩ := hp; cases e
        have hget := objAt_get hob (by simp)
        obtain ⟨b', vs, e, h1, h2⟩ := hh.objs n _ _ hget hb
        cases e
        obtain ⟨c1, c2⟩ := patchW_conc hpa hn h2
        obtain ⟨w', r1, r2, r3, r4⟩ := run_storeCells_block (P := P) h1 (by simpa using c2) hones
        refine ⟨w', Z, run_storeAt hk (by rw [← Array.length_toList, hn.length, hw]) r1, ?_⟩
        have k := r4 (fun b' => (AObj.cells tt cs).live = true ∧ blockOf (.pointer (some ⟨b, 0, none⟩)) = some b') ⟨rfl, rfl⟩
        refine Trans.upd hh hget hb (.inl rfl) k r3 ⟨b, _, rfl, r2, ?_⟩
        have kz : ZKeep Z Z w w' := hh.zkeep (k.mono fun q hq => ⟨n, _, _, hget, hq.1, hb, hq.2⟩) fun _ h => h
        have := c1.mono (ext := []) kz
        simpa using this
      · cases h
    · cases h
  · rename_i n wd i off
    split at h
    · rename_i e τ xs hob
      split at h
      rename_i news' H1 hf
      split at h
      · rename_i e' τ' xs' hob1
        split at h
        · rename_i cs hw hsz hpa
          split at h
          · rename_i y hy
            cases h
            have hw := Nat.eq_of_beq_eq_true hw
            have hsz := Nat.eq_of_beq_eq_true hsz
            subst hw
            have hi : i < xs'.length := ho _ (.head _)
            obtain ⟨Z1, t1, k1⟩ := frzGo_conc news H Z _ hh hn
            rw [hf] at t1 k1
            obtain ⟨b, m, c, hb, ee⟩ := hp; cases ee
            have hget := objAt_get hob1 (by simp)
            obtain ⟨vs, g1, g2, g3⟩ := t1.heap.objs n _ _ hget hb
            rcases g1.2 with ⟨e1, e2⟩ | ⟨g, cap, cur, e1, q1, q2, q3, q4, q5, q6⟩
            · cases e1
            · cases e1
              have hel := g2.at_ (fun _ _ => Ty.Enc.length τ') τ'.zero hi
              obtain ⟨c1, c2⟩ := patchW_conc (β := β) hpa k1 (enc_conc τ' hel)
              rw [Ty.Enc.length _ hel] at c2
              have hy' := dec_conc hy c1
              have hset := EncAll.set (R := τ'.Enc Z1 w) (x := y) (fun _ _ => Ty.Enc.length τ') hy' i g2 hi
              rw [← splice_elem g1.1 hi c2] at hset
              have hbound : i * τ'.wd + off + a.cells.toList.length ≤ xs'.length * τ'.wd := by
                have : (i + 1) * τ'.wd ≤ xs'.length * τ'.wd := Nat.mul_le_mul_right _ hi
                rw [Nat.add_mul, Nat.one_mul] at this
                omega
              have hcap : xs'.length * τ'.wd ≤ c * τ'.wd := Nat.mul_le_mul_right _ q3
              obtain ⟨w', r1, r2, r3, r4⟩ := run_storeCells_block (P := P) (o := i * τ'.wd + off) q2 (by rw [q5]; omega) hones
              refine ⟨w', Z1, run_storeAt hk (by rw [← Array.length_toList, k1.length, hsz]) r1, t1.trans ?_⟩
              have k := r4 (fun b' => (AObj.row e' τ' xs').live = true ∧ blockOf (.slice (some ⟨b, 0, none⟩) xs'.length c) = some b') ⟨rfl, rfl⟩
              refine Trans.upd t1.heap hget hb (.inl rfl) k r3 ⟨splice vs (i * τ'.wd + off) a.cells.toList, ?_, ?_, ?_⟩
              · rw [List.length_set]
                refine ⟨by rw [splice_length _ _ _ (by rw [g1.1]; exact hbound)]; exact g1.1, .inr ⟨b, c, _, rfl, q1, r2, q3, q4, ?_, ?_⟩⟩
                · rw [List.size_toArray, splice_length _ _ _ (by rw [← q5] at hcap; rw [Array.length_toList]; exact Nat.le_trans hbound hcap), Array.length_toList, q5]
                · have hcl : cur.toList.length = c * τ'.wd := by simpa using q5
                  show (splice cur.toList _ _).take _ = _
                  rw [← q6]
                  exact splice_take hbound (by rw [hcl]; exact hcap)
              · have kz : ZKeep Z1 Z1 w w' := t1.heap.zkeep (k.mono fun q hq => ⟨n, _, _, hget, hq.1, hb, hq.2⟩) fun _ h => h
                exact hset.mono fun _ _ => Ty.Enc.mono kz τ'
              · have kz : ZKeep Z1 Z1 w w' := t1.heap.zkeep (k.mono fun q hq => ⟨n, _, _, hget, hq.1, hb, hq.2⟩) fun _ h => h
                intro g n' cap cur' t o e1 hg1
                cases e1
                rw [r2] at hg1
                cases hg1
                obtain ⟨js, hj⟩ := g3 _ _ _ _ _ _ rfl q2
                refine ⟨js, ?_⟩
                rw [List.length_set]
                have : (splice cur.toList (i * τ'.wd + off) a.cells.toList).drop (xs'.length * τ'.wd) = cur.toList.drop (xs'.length * τ'.wd) := by
                  have hcl : cur.toList.length = c * τ'.wd := by simpa using q5
                  exact splice_drop hbound (by rw [hcl]; exact hcap)
                show EncAll _ js ((splice cur.toList _ _).drop _)
                rw [this]
                exact hj.mono fun _ _ => Ty.Enc.mono kz τ'
          · cases h
        · cases h
      · cases h
    · cases h
  · rename_i n off m wd i o
    split at h
    · rename_i tt cs hob
      split at h
      · rename_i m' τ xs hrun
        split at h
        · rename_i es hw hm hsz hpa
          split at h
          · rename_i y hy
            split at h
            · rename_i cs' hpr
              cases h
              have hw := Nat.eq_of_beq_eq_true hw
              have hsz := Nat.eq_of_beq_eq_true hsz
              have hm := Nat.eq_of_beq_eq_true hm
              subst hw hm
              have hi : i < m := ho _ (.head _)
              obtain ⟨b, hb, e⟩ := hp; cases e
              have hget := objAt_get hob (by simp)
              obtain ⟨b', vs, e, h1, h2⟩ := hh.objs n _ _ hget hb
              cases e
              obtain ⟨hxl, A, B, C, hvs, hA, hB, hE⟩ := runAt_split hrun h2
              have hi' : i < xs.length := by rw [hxl]; exact hi
              have hel := hE.at_ (fun _ _ => Ty.Enc.length τ) τ.zero hi'
              obtain ⟨c1, c2⟩ := patchW_conc (β := β) hpa hn (enc_conc τ hel)
              rw [Ty.Enc.length _ hel] at c2
              have hy' := dec_conc hy c1
              have hset := EncAll.set (R := τ.Enc Z w) (x := y) (fun _ _ => Ty.Enc.length τ) hy' i hE hi'
              have hbound : i * τ.wd + o + a.cells.toList.length ≤ B.length := by
                have : (i + 1) * τ.wd ≤ m * τ.wd := Nat.mul_le_mul_right _ hi
                rw [Nat.add_mul, Nat.one_mul] at this
                omega
              rw [← splice_elem hB hi c2] at hset
              have hmid := splice_mid A B C (i * τ.wd + o) a.cells.toList hbound
              obtain ⟨w', r1, r2, r3, r4⟩ := run_storeCells_block (P := P) (o := off + i * τ.wd + o) h1 (by rw [← Array.length_toList, hvs]; simp only [List.length_append]; omega) hones
              refine ⟨w', Z, run_storeAt hk (by rw [← Array.length_toList, hn.length, hsz]) r1, ?_⟩
              have k := r4 (fun b' => (AObj.cells tt cs).live = true ∧ blockOf (.pointer (some ⟨b, 0, none⟩)) = some b') ⟨rfl, rfl⟩
              have c3 := patchRun_conc hpr (by rw [← hvs]; exact h2) hA hB (by rw [List.length_set]; exact hxl) hset
              rw [← hmid, hA, ← hvs, ← Nat.add_assoc] at c3
              refine Trans.upd hh hget hb (.inl rfl) k r3 ⟨b, _, rfl, r2, ?_⟩
              have kz : ZKeep Z Z w w' := hh.zkeep (k.mono fun q hq => ⟨n, _, _, hget, hq.1, hb, hq.2⟩) fun _ h => h
              have := c3.mono (ext := []) kz
              simpa using this
            · cases h
          · cases h
        · cases h
      · cases h
    · cases h
  · cases h

theorem store_does (hh : HeapOK β H Z w) (t : TypeId) (p v : TV) (x a : Value) (hp : p.conc β Z w x) (hv : v.conc β Z w a) : Does P β H Z w (runsU P (Instr.storeAt t x a)) (storeStep P H t p v) := by
  intro obs r H' h ho
  unfold storeStep at h
  split at h
  · rename_i agg sz p hk
    split at h
    · rename_i cs H1 hs
      split at h
      · rename_i obs' H2 hst
        cases h
        obtain ⟨β1, t1, hc⟩ := shapeOf_conc hs hh (TV.cells_conc hv)
        obtain ⟨w', Z', hr, t2⟩ := storeAt_does (P := P) t1.heap hk (hp.trans hh t1) hc hst ho
        exact ⟨undef, w', β1, Z', ⟨hr, rfl⟩, t1.trans t2, trivial⟩
      · cases h
    · cases h
  · cases h

end

end Go.Proofs.Ythjogeodclpafaa.AM
