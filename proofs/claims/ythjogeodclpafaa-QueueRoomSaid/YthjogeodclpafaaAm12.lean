/- Names: what a value reaches, renaming, a part of the heap by itself. -/
import Derived.Test.YthjogeodclpafaaAm11
set_option linter.unusedVariables false
set_option linter.unusedSimpArgs false
namespace Go.Proofs.Ythjogeodclpafaa.AM
open Go

/-! ### Names -/
def BV.names : BV → List Nat
  | .ptr n _ => [n]
  | .eptr n _ _ _ => [n]
  | .aptr n _ _ _ _ _ => [n]
  | .hd n => [n]
  | .sub n _ _ _ => [n]
  | .map n => [n]
  | .fn _ caps => caps
  | .pre n _ => [n]
  | .win n _ _ _ => [n]
  | .prec n _ => [n]
  | _ => []

def namesL : List BV → List Nat
  | [] => []
  | c :: cs => c.names ++ namesL cs

def TV.names (v : TV) : List Nat := namesL v.cells

def namesT : List TV → List Nat
  | [] => []
  | t :: ts => t.names ++ namesT ts

def SV.names : SV → List Nat
  | .any => []
  | .t v => v.names
  | .tup vs => namesT vs
  | .cond _ _ _ => []

def namesS : List SV → List Nat
  | [] => []
  | t :: ts => t.names ++ namesS ts

def AObj.names : AObj → List Nat
  | .cells _ cs => namesL cs
  | _ => []

def memN (n : Nat) : List Nat → Bool
  | [] => false
  | m :: r => match Nat.beq n m with
    | true => true
    | false => memN n r

def reachGo (H : List AObj) : Nat → List Nat → List Nat → List Nat
  | 0, _, acc => acc
  | _ + 1, [], acc => acc
  | k + 1, n :: todo, acc => match memN n acc with
    | true => reachGo H k todo acc
    | false => reachGo H k (todo ++ (objAt H n).names) (acc ++ [n])

def reach (H : List AObj) (roots : List Nat) : List Nat := reachGo H 400 roots []

def idxN (n : Nat) : List Nat → Nat
  | [] => 0
  | m :: r => match Nat.beq n m with
    | true => 0
    | false => idxN n r + 1

def BV.ren (ρ : Nat → Nat) : BV → BV
  | .ptr n o => .ptr (ρ n) o
  | .eptr n wd i o => .eptr (ρ n) wd i o
  | .aptr n o m wd i q => .aptr (ρ n) o m wd i q
  | .hd n => .hd (ρ n)
  | .sub n wd lo len => .sub (ρ n) wd lo len
  | .map n => .map (ρ n)
  | .fn f caps => .fn f (caps.map ρ)
  | .pre n l => .pre (ρ n) l
  | .win n wd lo l => .win (ρ n) wd lo l
  | .prec n l => .prec (ρ n) l
  | v => v

def renL (ρ : Nat → Nat) : List BV → List BV
  | [] => []
  | c :: cs => c.ren ρ :: renL ρ cs

def TV.ren (ρ : Nat → Nat) : TV → TV
  | .one v => .one (v.ren ρ)
  | .agg cs => .agg (renL ρ cs)

def renT (ρ : Nat → Nat) : List TV → List TV
  | [] => []
  | t :: ts => t.ren ρ :: renT ρ ts

def SV.ren (ρ : Nat → Nat) : SV → SV
  | .any => .any
  | .t v => .t (v.ren ρ)
  | .tup vs => .tup (renT ρ vs)
  | .cond _ _ _ => .any

def renS (ρ : Nat → Nat) : List SV → List SV
  | [] => []
  | t :: ts => t.ren ρ :: renS ρ ts

def AObj.ren (ρ : Nat → Nat) : AObj → AObj
  | .cells t cs => .cells t (renL ρ cs)
  | o => o

def allIn (ns : List Nat) : List Nat → Bool
  | [] => true
  | n :: r => match memN n ns with
    | true => allIn ns r
    | false => false

def nodupN : List Nat → Bool
  | [] => true
  | n :: r => match memN n r with
    | true => false
    | false => nodupN r

def objsAt (H : List AObj) : List Nat → List AObj
  | [] => []
  | n :: r => objAt H n :: objsAt H r

def namesO : List AObj → List Nat
  | [] => []
  | o :: r => o.names ++ namesO r

def renO (ρ : Nat → Nat) : List AObj → List AObj
  | [] => []
  | o :: r => o.ren ρ :: renO ρ r

/-- A part of the heap that is closed, in its own numbering. -/
def partOf (H : List AObj) (ns : List Nat) : Option (List AObj) :=
  match nodupN ns, allIn ns (namesO (objsAt H ns)), ns.all fun n => Nat.blt n H.length with
  | true, true, true => some (renO (fun n => idxN n ns) (objsAt H ns))
  | _, _, _ => none

section
variable {β β' : List Value} {Z : Nat → Prop} {w : World} {H : List AObj}

/-- A renaming under which the names stand for the same. -/
def RenOK (ρ : Nat → Nat) (β β' : List Value) (l : List Nat) : Prop := ∀ n ∈ l, ∀ v, β[n]? = some v → β'[ρ n]? = some v

theorem RenOK.left {ρ : Nat → Nat} {a b : List Nat} (h : RenOK ρ β β' (a ++ b)) : RenOK ρ β β' a := fun n hn => h n (List.mem_append_left _ hn)
theorem RenOK.right {ρ : Nat → Nat} {a b : List Nat} (h : RenOK ρ β β' (a ++ b)) : RenOK ρ β β' b := fun n hn => h n (List.mem_append_right _ hn)

theorem CapsOK.ren {ρ : Nat → Nat} : ∀ {ns : List Nat} {vs : List Value}, RenOK ρ β β' ns → CapsOK β ns vs → CapsOK β' (ns.map ρ) vs
  | [], _, _, h => h
  | n :: ns, _, hr, ⟨b, r, e, h1, h2⟩ => ⟨b, r, e, hr n (by simp) _ h1, CapsOK.ren (fun m hm => hr m (by simp [hm])) h2⟩

theorem BV.conc.ren {ρ : Nat → Nat} : ∀ {v : BV} {cs : List Value}, RenOK ρ β β' v.names → v.conc β Z w cs → (v.ren ρ).conc β' Z w cs
  | .any, _, _, h => h
  | .int _ _, _, _, h => h
  | .bool _, _, _, h => h
  | .lit _, _, _, h => h
  | .str _, _, _, h => h
  | .nilp, _, _, h => h
  | .nils, _, _, h => h
  | .nilm, _, _, h => h
  | .nilf, _, _, h => h
  | .ptr _ _, _, hr, ⟨b, h, e⟩ => ⟨b, hr _ (by simp [BV.names]) _ h, e⟩
  | .eptr _ _ _ _, _, hr, ⟨b, m, c, h, e⟩ => ⟨b, m, c, hr _ (by simp [BV.names]) _ h, e⟩
  | .fptr _ _ _, _, _, h => h
  | .aptr _ _ _ _ _ _, _, hr, ⟨b, h, e⟩ => ⟨b, hr _ (by simp [BV.names]) _ h, e⟩
  | .hd _, _, hr, ⟨A, m, c, h, e⟩ => ⟨A, m, c, hr _ (by simp [BV.names]) _ h, e⟩
  | .sub _ _ _ _, _, hr, ⟨A, m, c, A', c', h, r⟩ => ⟨A, m, c, A', c', hr _ (by simp [BV.names]) _ h, r⟩
  | .fsl _ _ _, _, _, h => h
  | .map _, _, hr, ⟨b, h, e⟩ => ⟨b, hr _ (by simp [BV.names]) _ h, e⟩
  | .fn _ _, _, hr, ⟨vs, e, h⟩ => ⟨vs, e, h.ren hr⟩
  | .arr _ _ _, _, _, h => h
  | .nz _ _, _, _, h => h
  | .pre _ _, _, hr, ⟨A, m, c, h, e⟩ => ⟨A, m, c, hr _ (by simp [BV.names]) _ h, e⟩
  | .prec _ _, _, hr, ⟨A, m, c, h, e⟩ => ⟨A, m, c, hr _ (by simp [BV.names]) _ h, e⟩
  | .win _ _ _ _, _, hr, ⟨A, m, c, A', c', h, r⟩ => ⟨A, m, c, A', c', hr _ (by simp [BV.names]) _ h, r⟩

theorem ConcL.ren {ρ : Nat → Nat} : ∀ {cs : List BV} {vs : List Value}, RenOK ρ β β' (namesL cs) → ConcL β Z w cs vs → ConcL β' Z w (renL ρ cs) vs
  | [], _, _, h => h
  | _ :: _, _, hr, ⟨v1, v2, e, h1, h2⟩ => ⟨v1, v2, e, h1.ren hr.left, ConcL.ren hr.right h2⟩

theorem TV.conc.ren {ρ : Nat → Nat} {t : TV} {x : Value} (hr : RenOK ρ β β' t.names) (h : t.conc β Z w x) : (t.ren ρ).conc β' Z w x := by
  cases t with
  | one v => exact BV.conc.ren (fun n hn => hr n (by simpa [TV.names, namesL, TV.cells] using hn)) h
  | agg cs =>
    obtain ⟨vs, e, hc⟩ := h
    exact ⟨vs, e, hc.ren hr⟩

theorem TVs.ren {ρ : Nat → Nat} : ∀ {ts : List TV} {xs : List Value}, RenOK ρ β β' (namesT ts) → TVs β Z w ts xs → TVs β' Z w (renT ρ ts) xs
  | [], _, _, h => h
  | _ :: _, _, hr, ⟨x, r, e, h1, h2⟩ => ⟨x, r, e, h1.ren hr.left, TVs.ren hr.right h2⟩

theorem SV.conc.ren {ρ : Nat → Nat} {t : SV} {x : Value} (hr : RenOK ρ β β' t.names) (h : t.conc β Z w x) : (t.ren ρ).conc β' Z w x := by
  cases t with
  | any => trivial
  | t v => exact TV.conc.ren hr h
  | tup ts => obtain ⟨xs, e, h⟩ := h; exact ⟨xs, e, h.ren hr⟩
  | cond ts b v => trivial

theorem SVs.ren {ρ : Nat → Nat} : ∀ {ts : List SV} {xs : List Value}, RenOK ρ β β' (namesS ts) → SVs β Z w ts xs → SVs β' Z w (renS ρ ts) xs
  | [], _, _, h => h
  | _ :: _, _, hr, ⟨x, r, e, h1, h2⟩ => ⟨x, r, e, SV.conc.ren hr.left h1, SVs.ren hr.right h2⟩

theorem ObjOK.ren {ρ : Nat → Nat} {o : AObj} {v : Value} (hr : RenOK ρ β β' o.names) (h : ObjOK β Z w v o) : ObjOK β' Z w v (o.ren ρ) := by
  cases o with
  | cells t cs => obtain ⟨b, vs, e, h1, h2⟩ := h; exact ⟨b, vs, e, h1, h2.ren hr⟩
  | row _ _ _ => exact h
  | map _ _ _ _ => exact h
  | frow _ _ _ => exact h
  | buf _ _ _ _ => exact h
  | dead => trivial

theorem AObj.live_ren (ρ : Nat → Nat) (o : AObj) : (o.ren ρ).live = o.live := by cases o <;> rfl

theorem memN_iff {n : Nat} : ∀ {l : List Nat}, memN n l = true ↔ n ∈ l
  | [] => by simp [memN]
  | m :: r => by
    unfold memN
    split
    · rename_i h; have := Nat.eq_of_beq_eq_true h; simp [this]
    · rename_i h
      have : n ≠ m := fun e => by rw [e] at h; simp at h
      rw [memN_iff]; simp [this]

theorem idxN_get {n : Nat} : ∀ {l : List Nat}, n ∈ l → l[idxN n l]? = some n
  | [], h => by cases h
  | m :: r, h => by
    unfold idxN
    split
    · rename_i q; have := Nat.eq_of_beq_eq_true q; simp [this]
    · rename_i q
      have hne : n ≠ m := fun e => by rw [e] at q; simp at q
      have : n ∈ r := by rcases List.mem_cons.1 h with e | h; exact absurd e hne; exact h
      simpa using idxN_get this

theorem allIn_iff {ns : List Nat} : ∀ {l : List Nat}, allIn ns l = true ↔ ∀ n ∈ l, n ∈ ns
  | [] => by simp [allIn]
  | n :: r => by
    unfold allIn
    split
    · rename_i h; rw [allIn_iff]; have := memN_iff.1 h; simp [this]
    · rename_i h
      have : n ∉ ns := fun e => by rw [memN_iff.2 e] at h; cases h
      simp [this]

theorem nodupN_iff : ∀ {l : List Nat}, nodupN l = true → l.Nodup
  | [], _ => by simp
  | n :: r, h => by
    unfold nodupN at h
    split at h
    · cases h
    · rename_i q
      refine List.nodup_cons.2 ⟨(fun e => by rw [memN_iff.2 e] at q; cases q), nodupN_iff h⟩

theorem objsAt_get : ∀ {l : List Nat} {i : Nat}, (objsAt H l)[i]? = (l[i]?).map (objAt H)
  | [], i => by simp [objsAt]
  | n :: r, 0 => by simp [objsAt]
  | n :: r, i + 1 => by simpa [objsAt] using objsAt_get

theorem renO_get (ρ : Nat → Nat) : ∀ {l : List AObj} {i : Nat}, (renO ρ l)[i]? = (l[i]?).map (AObj.ren ρ)
  | [], i => by simp [renO]
  | n :: r, 0 => by simp [renO]
  | n :: r, i + 1 => by simpa [renO] using renO_get ρ

theorem renO_length (ρ : Nat → Nat) : ∀ (l : List AObj), (renO ρ l).length = l.length
  | [] => rfl
  | _ :: r => by simp [renO, renO_length]

theorem objsAt_length : ∀ (l : List Nat), (objsAt H l).length = l.length
  | [] => rfl
  | _ :: r => by simp [objsAt, objsAt_length]

theorem namesO_mem {l : List AObj} {o : AObj} {n : Nat} (ho : o ∈ l) (hn : n ∈ o.names) : n ∈ namesO l := by
  induction l with
  | nil => cases ho
  | cons p r ih =>
    simp only [namesO, List.mem_append]
    rcases List.mem_cons.1 ho with rfl | ho
    · exact .inl hn
    · exact .inr (ih ho)

/-- What the names of a part stand for. -/
def partB (β : List Value) (ns : List Nat) : List Value := ns.map fun n => β.getD n undef

theorem partB_get {ns : List Nat} {i n : Nat} {v : Value} (hi : ns[i]? = some n) (hv : β[n]? = some v) : (partB β ns)[i]? = some v := by
  simp [partB, hi, List.getD_eq_getElem?_getD, hv]

theorem partB_inv {ns : List Nat} {i : Nat} {v : Value} (h : (partB β ns)[i]? = some v) : ∃ n, ns[i]? = some n ∧ v = β.getD n undef := by
  simp only [partB, List.getElem?_map] at h
  cases hn : ns[i]? with
  | none => rw [hn] at h; cases h
  | some n => rw [hn] at h; cases h; exact ⟨n, rfl, rfl⟩

theorem renOK_idx {ns l : List Nat} (h : ∀ n ∈ l, n ∈ ns) : RenOK (fun n => idxN n ns) β (partB β ns) l := fun n hn v hv => partB_get (idxN_get (h n hn)) hv

structure PartOK (β : List Value) (H : List AObj) (ns : List Nat) (Hl : List AObj) : Prop where
  nodup : ns.Nodup
  lt : ∀ n ∈ ns, n < H.length
  len : Hl.length = ns.length
  get : ∀ (i : Nat) (n : Nat), ns[i]? = some n → Hl[i]? = some ((objAt H n).ren fun m => idxN m ns)
  closed : ∀ n ∈ ns, ∀ m ∈ (objAt H n).names, m ∈ ns

theorem partOf_spec {ns : List Nat} {Hl : List AObj} (h : partOf H ns = some Hl) (β : List Value) : PartOK β H ns Hl := by
  unfold partOf at h
  split at h
  · rename_i h1 h2 h3
    cases h
    refine ⟨nodupN_iff h1, fun n hn => ?_, by rw [renO_length, objsAt_length], fun i n hi => by rw [renO_get, objsAt_get, hi]; rfl, fun n hn m hm => ?_⟩
    · have := List.all_eq_true.1 h3 n hn
      exact Nat.le_of_ble_eq_true this
    · refine allIn_iff.1 h2 m (namesO_mem (o := objAt H n) ?_ hm)
      obtain ⟨i, hi⟩ := List.getElem?_of_mem hn
      exact List.mem_of_getElem? (show (objsAt H ns)[i]? = _ by rw [objsAt_get, hi]; rfl)
  · cases h

theorem HeapOK.get (h : HeapOK β H Z w) {n : Nat} (hn : n < H.length) : ∃ v, β[n]? = some v ∧ H[n]? = some (objAt H n) ∧ β.getD n undef = v ∧ ObjOK β Z w v (objAt H n) := by
  have hb : β[n]? = some (β[n]'(by rw [h.len]; exact hn)) := List.getElem?_eq_getElem _
  have ho : H[n]? = some (objAt H n) := by unfold objAt; rw [List.getD_eq_getElem?_getD, List.getElem?_eq_getElem hn]; rfl
  exact ⟨_, hb, ho, by rw [List.getD_eq_getElem?_getD, hb]; rfl, h.objs n _ _ ho hb⟩

theorem PartOK.inv {ns : List Nat} {Hl : List AObj} (p : PartOK β H ns Hl) (h : HeapOK β H Z w) {i : Nat} {o : AObj} {v : Value} (ho : Hl[i]? = some o) (hv : (partB β ns)[i]? = some v) :
    ∃ n, ns[i]? = some n ∧ β[n]? = some v ∧ H[n]? = some (objAt H n) ∧ o = (objAt H n).ren (fun m => idxN m ns) := by
  obtain ⟨n, hn, e⟩ := partB_inv hv
  obtain ⟨u, h1, h2, h3, h4⟩ := h.get (p.lt n (List.mem_of_getElem? hn))
  have := p.get i n hn
  rw [ho] at this
  cases this
  exact ⟨n, hn, by rw [e, h3]; exact h1, h2, rfl⟩

theorem PartOK.live {ns : List Nat} {Hl : List AObj} (p : PartOK β H ns Hl) (h : HeapOK β H Z w) {b : Nat} (hl : LiveB (partB β ns) Hl b) : ∃ n ∈ ns, ∃ v, H[n]? = some (objAt H n) ∧ (objAt H n).live = true ∧ β[n]? = some v ∧ blockOf v = some b := by
  obtain ⟨i, o, v, h1, h2, h3, h4⟩ := hl
  obtain ⟨n, hn, hb, ho, e⟩ := p.inv h h1 h3
  rw [e, AObj.live_ren] at h2
  exact ⟨n, List.mem_of_getElem? hn, v, ho, h2, hb, h4⟩

theorem PartOK.liveB {ns : List Nat} {Hl : List AObj} (p : PartOK β H ns Hl) (h : HeapOK β H Z w) {b : Nat} (hl : LiveB (partB β ns) Hl b) : LiveB β H b := by
  obtain ⟨n, _, v, h1, h2, h3, h4⟩ := p.live h hl
  exact ⟨n, _, v, h1, h2, h3, h4⟩

/-- A part is a heap by itself; more blocks may count as frozen, if they are not of the part. -/
theorem PartOK.heap {ns : List Nat} {Hl : List AObj} (p : PartOK β H ns Hl) (h : HeapOK β H Z w) (Z' : Nat → Prop) (hz : ∀ b, Z b → Z' b) (hlt : ∀ b, Z' b → b < w.heap.size) (hf : ∀ b, LiveB (partB β ns) Hl b → ¬ Z' b) : HeapOK (partB β ns) Hl Z' w := by
  refine ⟨by simp [partB, p.len], fun i o v ho hv => ?_, fun i j o q u v b h1 h2 h3 h4 h5 h6 h7 h8 => ?_, hf, hlt⟩
  · obtain ⟨n, hn, hb, hon, e⟩ := p.inv h ho hv
    rw [e]
    have hob := h.objs n _ v hon hb
    have := hob.mono (ext := []) (w' := w) ⟨hz, fun _ _ => rfl⟩ fun _ _ _ => rfl
    rw [List.append_nil] at this
    exact this.ren (renOK_idx fun m hm => p.closed n (List.mem_of_getElem? hn) m hm)
  · obtain ⟨n, hn, hb, hon, e⟩ := p.inv h h1 h5
    obtain ⟨m, hm, hb', hom, e'⟩ := p.inv h h2 h6
    rw [e, AObj.live_ren] at h3
    rw [e', AObj.live_ren] at h4
    have := h.apart n m _ _ u v b hon hom h3 h4 hb hb' h7 h8
    subst this
    have hi : i < ns.length := (List.getElem?_eq_some_iff.1 hn).1
    have hj : j < ns.length := (List.getElem?_eq_some_iff.1 hm).1
    exact (List.getElem_inj p.nodup).1 (((List.getElem?_eq_some_iff.1 hn).2).trans ((List.getElem?_eq_some_iff.1 hm).2).symm)

end

end Go.Proofs.Ythjogeodclpafaa.AM
