/- Arguments that are only read, of any type without pointers and maps: what the row says of them is what the machine says. -/
import Derived.Test.YthjogeodclpafaaAmM
import Derived.ChangeArms
set_option linter.unusedVariables false
set_option linter.unusedSimpArgs false
namespace Go.Proofs.Ythjogeodclpafaa.AM
open Go Go.RowKit Go.ChangeShapes Go.WideShapes

def fitF (P : Program) (g : TypeId → Ty → Bool) (tot : Nat) : List Field → Nat → Ty → Bool
  | [], _, _ => false
  | f :: fs, o, τ => (f.offset == o) && (match fs with
    | [] => (o + P.cellsOf f.type == tot) && g f.type τ
    | _ :: _ => match τ with
      | .pair a b => g f.type a && fitF P g tot fs (o + P.cellsOf f.type) b
      | _ => false)

/-- The program's type is the machine's. -/
def fitB (P : Program) : Nat → TypeId → Ty → Bool
  | 0, _, _ => false
  | n + 1, t, τ => match P.underlying t with
    | some (.int k) => match τ with | .int k' => decide (k = k') | _ => false
    | some .bool => match τ with | .bool => true | _ => false
    | some .string => match τ with | .str => true | _ => false
    | some (.slice e) => match τ with | .sl e' a => (e == e') && decide (0 < P.cellsOf e) && fitB P n e a | _ => false
    | some (.struct fs) => fitF P (fitB P n) (P.cellsOf t) fs.toList 0 τ
    | _ => false

/-- Numbers are in their range, strings and lists not too long. -/
def Ty.InR : (τ : Ty) → τ.D → Prop
  | .int k, n => (Lit.int k n).wf = true
  | .bool, _ => True
  | .str, s => (show ByteArray from s).size ≤ maxLen
  | .pair a b, x => a.InR x.1 ∧ b.InR x.2
  | .sl _ a, xs => List.length (α := a.D) xs ≤ maxLen ∧ ∀ x ∈ (show List a.D from xs), a.InR x
  | .arr _ a, xs => ∀ x ∈ (show List a.D from xs), a.InR x

theorem cells_facts {W : World} {base n : Nat} {a : Addr} {cs : List Value} (h : W.cells? base a n = some cs) : cs.length = n ∧ ∀ j u, cs[j]? = some u → W.cell? (a.add j) = some u := by
  unfold World.cells? at h
  split at h
  · have hl := mapM_some_length h
    rw [List.length_range] at hl
    refine ⟨hl, fun j u hj => ?_⟩
    have hjn : j < n := by
      have := (List.getElem?_eq_some_iff.1 hj).1; omega
    have := mapM_some_get h j j (by simp [hjn])
    rw [this]; exact hj
  · cases h

theorem add_add (a : Addr) (i j : Nat) : (a.add i).add j = a.add (i + j) := by
  unfold Addr.add
  by_cases h : i = 0 <;> by_cases h' : j = 0 <;> simp [h, h', Nat.add_assoc]

/-- The elements of a slice, one behind the other. -/
theorem all_fit {W : World} {a : Addr} {c base : Nat} {α : Type} {R : α → List Value → Prop} {Q : α → Prop} {len : Nat} (h : ∀ i, i < len → ∃ cs y, W.cells? base (a.add (i * c)) c = some cs ∧ R y cs ∧ Q y) : ∀ m i, i + m = len →
    ∃ (xs : List α) (cs : List Value), xs.length = m ∧ EncAll R xs cs ∧ (∀ x ∈ xs, Q x) ∧ ∀ j u, cs[j]? = some u → W.cell? (a.add (i * c + j)) = some u
  | 0, i, _ => ⟨[], [], rfl, rfl, (fun x h => by cases h), fun j u h => by simp at h⟩
  | m + 1, i, hm => by
    obtain ⟨cs, y, h1, h2, h3⟩ := h i (by omega)
    obtain ⟨xs, cr, e1, e2, e3, e4⟩ := all_fit h m (i + 1) (by omega)
    obtain ⟨hl, hc⟩ := cells_facts h1
    refine ⟨y :: xs, cs ++ cr, by simp [e1], ⟨cs, cr, rfl, h2, e2⟩, fun x hx => ?_, fun j u hj => ?_⟩
    · rcases List.mem_cons.1 hx with rfl | hx
      · exact h3
      · exact e3 x hx
    · by_cases q : j < cs.length
      · rw [List.getElem?_append_left q] at hj
        have := hc j u hj
        rw [add_add] at this; exact this
      · rw [List.getElem?_append_right (by omega)] at hj
        have := e4 (j - cs.length) u hj
        rw [hl, Nat.add_mul, Nat.one_mul] at this
        rw [← this]
        congr 2
        omega

theorem fields_fit {P : Program} {W : World} {g : TypeId → Ty → Bool} {tot : Nat} {cs : List Value} (hlen : cs.length = tot) : ∀ (fs : List Field) (o : Nat) (τ : Ty), fitF P g tot fs o τ = true →
    (∀ f ∈ fs, ∀ σ : Ty, g f.type σ = true → ∃ y : σ.D, σ.Enc (Old W) W y ((cs.drop f.offset).take (P.cellsOf f.type)) ∧ σ.InR y) → ∃ y : τ.D, τ.Enc (Old W) W y (cs.drop o) ∧ τ.InR y
  | [], o, τ, h, _ => by cases h
  | [f], o, τ, h, hf => by
    simp only [fitF, Bool.and_eq_true, beq_iff_eq] at h
    obtain ⟨h1, h2, h3⟩ := h
    obtain ⟨y, hy⟩ := hf f (by simp) τ h3
    rw [h1, List.take_of_length_le (by rw [List.length_drop]; omega)] at hy
    exact ⟨y, hy⟩
  | f :: f' :: fs, o, τ, h, hf => by
    cases τ with
    | pair a b =>
      have h : ((f.offset == o) && (g f.type a && fitF P g tot (f' :: fs) (o + P.cellsOf f.type) b)) = true := h
      rw [Bool.and_eq_true, Bool.and_eq_true, beq_iff_eq] at h
      obtain ⟨h1, h2, h3⟩ := h
      obtain ⟨y, hy, ry⟩ := hf f (by simp) a h2
      obtain ⟨z, hz, rz⟩ := fields_fit hlen (f' :: fs) _ b h3 fun x hx => hf x (by simp [hx])
      rw [h1] at hy
      refine ⟨(y, z), ⟨_, _, ?_, hy, hz⟩, ry, rz⟩
      rw [← List.drop_drop, List.take_append_drop]
    | _ => simp [fitF] at h

theorem trod_fit {H : Type} {enc : TypeId × Value → H} {P : Program} {W : World} {base : Nat} {spare : Nat → Bool} {held : Bool} : ∀ (n : Nat) (t : TypeId) (τ : Ty) (fuel : Nat) (cs : List Value) (x : DataW H × List MemPlace),
    fitB P n t τ = true → DataW.trod enc P W base spare held fuel t cs = some x → ∃ y : τ.D, τ.Enc (Old W) W y cs ∧ τ.InR y
  | 0, t, τ, fuel, cs, x, h, _ => by cases h
  | n + 1, t, τ, fuel, cs, x, h, hx => by
    unfold fitB at h
    split at h
    · rename_i k ht
      cases τ with
      | int k' =>
        obtain ⟨m, e, _, hw⟩ := DataW.trod_int ht hx
        have hk : k = k' := of_decide_eq_true h
        subst hk
        exact ⟨m, e, hw⟩
      | _ => cases h
    · rename_i ht
      cases τ with
      | bool =>
        obtain ⟨b, e, _⟩ := DataW.trod_bool ht hx
        exact ⟨b, e, trivial⟩
      | _ => cases h
    · rename_i ht
      cases τ with
      | str =>
        obtain ⟨s, e, _, hs⟩ := DataW.trod_string ht hx
        exact ⟨s, e, hs⟩
      | _ => cases h
    · rename_i e ht
      cases τ with
      | sl e' a =>
        simp only [Bool.and_eq_true, beq_iff_eq, decide_eq_true_eq] at h
        obtain ⟨⟨rfl, hpos⟩, h⟩ := h
        rcases DataW.trod_slice ht hx with ⟨rfl, _⟩ | ⟨A, len, cap, elems, rest, m, _, rfl, _, hb, hl, hm, hlen, hel, _⟩
        · exact ⟨[], ⟨_, rfl, none, 0, [], rfl, Nat.le_refl _, Nat.zero_le _, rfl, fun q => absurd rfl q⟩, Nat.zero_le _, fun x hx => by cases hx⟩
        · have each : ∀ i, i < len → ∃ cs y, W.cells? base (A.add (i * P.cellsOf e)) (P.cellsOf e) = some cs ∧ a.Enc (Old W) W y cs ∧ a.InR y := by
            intro i hi
            have := hel i hi
            rw [List.getElem?_eq_getElem (by omega), Option.bind_eq_some_iff] at this
            obtain ⟨ci, h1, h2⟩ := this
            obtain ⟨y, hy, ry⟩ := trod_fit n e a m ci _ h h2
            exact ⟨ci, y, h1, hy, ry⟩
          obtain ⟨xs, cr, e1, e2, e3, e4⟩ := all_fit each len 0 (by omega)
          refine ⟨xs, ⟨_, rfl, some A, cap, cr, by rw [e1], by rw [e1]; exact hl, hm, e2, fun hne => ⟨A, rfl, ?_, ?_, fun j u hj => ?_⟩⟩, by show xs.length ≤ maxLen; omega, e3⟩
          · obtain ⟨ci, y, h1, _⟩ := each 0 (by omega)
            have hc := cells_facts h1
            have := hc.2 0 (ci[0]'(by omega)) (by simp)
            rw [Nat.zero_mul, show (A.add 0).add 0 = A by simp [Addr.add]] at this
            exact World.cell?_spot this
          · obtain ⟨ci, y, h1, _⟩ := each 0 (by omega)
            have hc := cells_facts h1
            have := hc.2 0 (ci[0]'(by omega)) (by simp)
            rw [Nat.zero_mul, show (A.add 0).add 0 = A by simp [Addr.add]] at this
            exact World.block_lt_of_cell? W A this
          · have := e4 j u hj
            rw [Nat.zero_mul, Nat.zero_add] at this
            exact this
      | _ => cases h
    · rename_i fs ht
      obtain ⟨xs, m, _, _, hl, hs, hf⟩ := DataW.trod_struct ht hx
      have := fields_fit (P := P) (W := W) hl fs.toList 0 τ h fun f hfm σ hg => by
        obtain ⟨i, hi⟩ := List.getElem?_of_mem hfm
        have hi' : fs[i]? = some f := by simpa using hi
        have h2 := hf i f hi'
        have hlt : i < xs.length := by rw [hs]; exact (Array.getElem?_eq_some_iff.1 hi').1
        rw [List.getElem?_eq_getElem hlt] at h2
        exact trod_fit n f.type σ m _ _ hg h2
      simpa using this
    · cases h

/-- A list that is only read. -/
theorem open_list {H : Type} {enc : TypeId × Value → H} {P : Program} {W : World} {base b0 : Nat} {spare : Nat → Bool} {held : Bool} {r : Reach} {t e : TypeId} {τ : Ty} {v : Value} {d : DataW H} {ps : List MemPlace} (n : Nat)
    (hs : P.underlying t = some (.slice e)) (hf : fitB P n t (.sl e τ) = true) (hv : Value.okWide P W r b0 t v) (h : DataW.Trod enc P W base spare held t v d ps) :
    ∃ xs : List τ.D, (SV.t (.one (.fsl e τ xs))).conc [] (Old W) W v ∧ xs.length ≤ maxLen ∧ ∀ x ∈ xs, τ.InR x := by
  obtain ⟨fuel, hf'⟩ := h
  obtain ⟨a, len, cap, rfl⟩ := okWide_slice hs hv
  obtain ⟨y, hy, ry⟩ := trod_fit n t (.sl e τ) fuel _ _ hf hf'
  exact ⟨y, hy, ry⟩

/-- A struct. -/
theorem open_struct {H : Type} {enc : TypeId × Value → H} {P : Program} {W : World} {base b0 : Nat} {spare : Nat → Bool} {held : Bool} {r : Reach} {t : TypeId} {τ : Ty} {v : Value} {d : DataW H} {ps : List MemPlace} {fs : Array Field} (n : Nat)
    (hs : P.underlying t = some (.struct fs)) (hf : fitB P n t τ = true) (hv : Value.okWide P W r b0 t v) (h : DataW.Trod enc P W base spare held t v d ps) :
    ∃ x : τ.D, (SV.t (.agg (τ.enc x))).conc [] (Old W) W v ∧ τ.InR x := by
  obtain ⟨fuel, hf'⟩ := h
  have hv' := hv
  unfold Value.okWide at hv'
  rw [hs] at hv'
  obtain ⟨cs, rfl, _, _⟩ := hv'
  obtain ⟨y, hy, ry⟩ := trod_fit n t τ fuel _ _ hf hf'
  exact ⟨y, ⟨cs, rfl, enc_conc τ hy⟩, ry⟩

/-- A string. -/
theorem open_str {H : Type} {enc : TypeId × Value → H} {P : Program} {W : World} {base b0 : Nat} {spare : Nat → Bool} {held : Bool} {r : Reach} {t : TypeId} {v : Value} {d : DataW H} {ps : List MemPlace}
    (hs : P.underlying t = some .string) (hv : Value.okWide P W r b0 t v) (h : DataW.Trod enc P W base spare held t v d ps) :
    ∃ s : ByteArray, (SV.t (.one (.str s))).conc [] (Old W) W v ∧ s.size ≤ maxLen := by
  obtain ⟨s, rfl, _, _, hl⟩ := Go.ChangeMaps.open_string hs hv h
  exact ⟨s, rfl, hl⟩

end Go.Proofs.Ythjogeodclpafaa.AM
