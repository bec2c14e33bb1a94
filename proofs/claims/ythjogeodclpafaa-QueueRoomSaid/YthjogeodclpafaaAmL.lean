/- Plain lemmas that the conditions of functions want; objects are given up behind a call. -/
import Derived.Test.YthjogeodclpafaaAm19
set_option linter.unusedVariables false
set_option linter.unusedSimpArgs false
namespace Go.Proofs.Ythjogeodclpafaa.AM
open Go

/-- These names are given up. -/
def killN : List Nat → List AObj → List AObj
  | [], H => H
  | n :: r, H => killN r (H.set n .dead)

theorem killN_trans {β : List Value} {H : List AObj} {Z : Nat → Prop} {w : World} : ∀ (ns : List Nat), HeapOK β H Z w → Trans β H Z w β (killN ns H) Z w
  | [], h => Trans.refl h
  | n :: r, h => (Trans.kill h n).trans (killN_trans r (Trans.kill h n).heap)

theorem Sat.killed {P : Program} {f : FuncId} {args : List SV} {H : List AObj} {K : SV → List AObj → Prop} (ns : List Nat) (h : Sat P f args H fun r H' => K r (killN ns H')) : Sat P f args H K := by
  intro β Z w cargs hh hargs
  refine (h β Z w cargs hh hargs).mono ?_
  rintro e w' ⟨v, r, H', β', Z', rfl, hK, hr, t⟩
  have tk := killN_trans ns t.heap
  exact ⟨v, r, killN ns H', β', Z', rfl, hK, hr.trans t.heap tk, t.trans tk⟩

theorem Sat.mono {P : Program} {f : FuncId} {args : List SV} {H : List AObj} {K K' : SV → List AObj → Prop} (h : Sat P f args H K) (hK : ∀ r H', K r H' → K' r H') : Sat P f args H K' := by
  intro β Z w cargs hh hargs
  refine (h β Z w cargs hh hargs).mono ?_
  rintro e w' ⟨v, r, H', β', Z', rfl, hk, hr, t⟩
  exact ⟨v, r, H', β', Z', rfl, hK _ _ hk, hr, t⟩

/-! ### Results are put in order: objects of the entry get names behind -/
def moveRen (n h m : Nat) : Nat := match Nat.beq m n with
  | true => h
  | false => m

def moves : List Nat → SV → List AObj → SV × List AObj
  | [], r, H => (r, H)
  | n :: ns, r, H => match objAt H n with
    | .dead => moves ns r H
    | .frow _ _ _ => moves ns r H
    | o => moves ns (r.ren (moveRen n H.length)) (renO (moveRen n H.length) (H.set n .dead ++ [o]))

def settle (n0 : Nat) (ms : List Nat) (r : SV) (H : List AObj) : Option (SV × List AObj) :=
  match moves ms r H with
  | (r1, H1) => match reach H1 (rangeN 0 n0 ++ r1.names) with
    | ns => match partOf H1 ns, allIn ns r1.names, eqList (ns.take n0) (rangeN 0 n0) with
      | some Hl, true, true => some (r1.ren (fun n => idxN n ns), Hl)
      | _, _, _ => none

theorem renO_trans {β : List Value} {H : List AObj} {Z : Nat → Prop} {w : World} (hh : HeapOK β H Z w) {ρ : Nat → Nat} (hρ : ∀ n v, β[n]? = some v → β[ρ n]? = some v) : Trans β H Z w β (renO ρ H) Z w := by
  have get : ∀ {n : Nat} {o : AObj}, (renO ρ H)[n]? = some o → ∃ p, H[n]? = some p ∧ o = p.ren ρ := by
    intro n o h
    rw [renO_get] at h
    cases hp : H[n]? with
    | none => rw [hp] at h; cases h
    | some p => rw [hp] at h; cases h; exact ⟨p, rfl, rfl⟩
  have live : ∀ b, LiveB β (renO ρ H) b → LiveB β H b := by
    rintro b ⟨n, o, v, h1, h2, h3, h4⟩
    obtain ⟨p, hp, rfl⟩ := get h1
    exact ⟨n, p, v, hp, by rw [← AObj.live_ren ρ]; exact h2, h3, h4⟩
  refine ⟨⟨[], by simp⟩, ⟨by rw [renO_length]; exact hh.len, ?_, ?_, fun b hb => hh.frz b (live b hb), hh.zlt⟩, Keep.refl _ _, fun _ h => h, fun _ h => .inl h, fun b hb => .inl (live b hb)⟩
  · intro n o v h1 h2
    obtain ⟨p, hp, rfl⟩ := get h1
    exact (hh.objs n p v hp h2).ren fun m _ u hu => hρ m u hu
  · intro n m o p u v b h1 h2 h3 h4 h5 h6 h7 h8
    obtain ⟨o', ho, rfl⟩ := get h1
    obtain ⟨p', hp, rfl⟩ := get h2
    exact hh.apart n m o' p' u v b ho hp (by rw [← AObj.live_ren ρ]; exact h3) (by rw [← AObj.live_ren ρ]; exact h4) h5 h6 h7 h8

theorem moves_trans {Z : Nat → Prop} {w : World} : ∀ (ns : List Nat) (r : SV) (β : List Value) (H : List AObj) (x : Value), HeapOK β H Z w → r.conc β Z w x → ∃ β', Trans β H Z w β' (moves ns r H).2 Z w ∧ (moves ns r H).1.conc β' Z w x
  | [], r, β, H, x, hh, hr => ⟨β, Trans.refl hh, hr⟩
  | n :: ns, r, β, H, x, hh, hr => by
    unfold moves
    have main : objAt H n ≠ .dead → (objAt H n).live = true → ∃ β', Trans β H Z w β' (moves ns (r.ren (moveRen n H.length)) (renO (moveRen n H.length) (H.set n .dead ++ [objAt H n]))).2 Z w ∧ (moves ns (r.ren (moveRen n H.length)) (renO (moveRen n H.length) (H.set n .dead ++ [objAt H n]))).1.conc β' Z w x := by
      intro hne hlv
      have hget := objAt_get (H := H) (n := n) rfl hne
      have hlt : n < H.length := (List.getElem?_eq_some_iff.1 hget).1
      obtain ⟨v, hb, _, _, hob⟩ := hh.get hlt
      have hob' : ObjOK (β ++ [v]) Z w v (objAt H n) := hob.mono (ZKeep.refl Z w) fun _ _ _ => rfl
      have t1 := Trans.regrow hh hget hlv hb (Keep.refl _ _) (fun b hb' => .inl hb') (fun b hb' => LiveB.lt hh ⟨n, _, v, hget, hlv, hb, hb'⟩) hob'
      have hρ : ∀ m u, (β ++ [v])[m]? = some u → (β ++ [v])[moveRen n H.length m]? = some u := by
        intro m u hu
        unfold moveRen
        split
        · rename_i q
          have := Nat.eq_of_beq_eq_true q
          subst this
          rw [get_app hb] at hu
          cases hu
          exact last_name hh _
        · exact hu
      have t2 := renO_trans t1.heap hρ
      have hr1 : (r.ren (moveRen n H.length)).conc (β ++ [v]) Z w x := (hr.trans hh t1).ren fun m _ u hu => hρ m u hu
      obtain ⟨β', t3, h3⟩ := moves_trans ns _ _ _ x t2.heap hr1
      exact ⟨β', (t1.trans t2).trans t3, h3⟩
    split
    · exact moves_trans ns r β H x hh hr
    · exact moves_trans ns r β H x hh hr
    · rename_i o h1 h2
      refine main h1 ?_
      cases ho : objAt H n with
      | dead => exact absurd ho h1
      | frow e τ xs => exact absurd ho (h2 e τ xs)
      | _ => rfl

@[irreducible] def settleK (n0 : Nat) (ms : List Nat) (K : SV → List AObj → Prop) (r : SV) (H : List AObj) : Prop :=
  match settle n0 ms r H with
  | some (r', H') => K r' H'
  | none => False

/-- The result is put in order: then what is to be shown has one form only. -/
theorem Sat.settled {P : Program} {f : FuncId} {args : List SV} {H : List AObj} {K : SV → List AObj → Prop} (ms : List Nat) (h : Sat P f args H (settleK H.length ms K)) : Sat P f args H K := by
  intro β Z w cargs hh hargs
  refine (h β Z w cargs hh hargs).mono ?_
  rintro e w' ⟨v, r, H', β', Z', rfl, hK, hr, t⟩
  unfold settleK at hK
  split at hK
  · rename_i r' H'' hs
    obtain ⟨β1, t1, h1⟩ := moves_trans ms r β' H' v t.heap hr
    unfold settle at hs
    split at hs
    rename_i r1 H1 hm
    rw [hm] at t1 h1
    dsimp only at t1 h1 hs
    generalize reach H1 (rangeN 0 H.length ++ r1.names) = ns at hs
    split at hs
    · rename_i Hl hp hin heq
      cases hs
      have he := eqList_eq heq
      rw [rangeN_eq] at he
      exact ⟨v, _, _, partB β1 ns, Z', rfl, hK, h1.ren (renOK_idx (allIn_iff.1 hin)), part_trans (t.trans t1) hh.len.symm hp he⟩
    · cases hs
  · exact hK.elim

/-- A nil slice that is handed back gets a name. -/
def matR (e : TypeId) (τ : Ty) (r : SV) (H : List AObj) : SV × List AObj :=
  match r with
  | .t (.one .nils) => (.b (.hd H.length), H ++ [.row e τ []])
  | r => (r, H)

theorem Sat.matted {P : Program} {f : FuncId} {args : List SV} {H : List AObj} {K : SV → List AObj → Prop} (e : TypeId) (τ : Ty) (h : Sat P f args H fun r H' => K (matR e τ r H').1 (matR e τ r H').2) : Sat P f args H K := by
  intro β Z w cargs hh hargs
  refine (h β Z w cargs hh hargs).mono ?_
  rintro e' w' ⟨v, r, H', β', Z', rfl, hK, hr, t⟩
  unfold matR at hK
  split at hK
  · have hv : v = .slice none 0 0 := by
      have : [v] = [Value.slice none 0 0] := hr
      simpa using this
    subst hv
    exact ⟨_, _, _, _, Z', rfl, hK, ⟨none, 0, 0, last_name t.heap _, rfl⟩, t.trans (Trans.nil t.heap e τ)⟩
  · exact ⟨v, r, H', β', Z', rfl, hK, hr, t⟩

/-- Wrapping round at 64 bits. -/
abbrev wr (n : Int) : Int := IntKind.i64.wrap n

/-! ### Annotations -/
def updSl (us : List (Nat × SV)) : List (Nat × SV) → List (Nat × SV)
  | [] => []
  | (i, v) :: r => match sget us i with
    | .any => (i, v) :: updSl us r
    | u => (i, u) :: updSl us r

def updH (os : List (Nat × AObj)) (H : List AObj) : List AObj :=
  match os with
  | [] => H
  | (n, o) :: r => updH r (H.set n o)

/-- States like the one at hand, but for these slots and these objects. -/
def annOf {α : Type} (keep : List Nat) (mats : List (Nat × TypeId × Ty)) (s : St) (U : α → List (Nat × SV)) (O : α → List (Nat × AObj)) (I : St → α → Prop) (μ : α → Nat := fun _ => 0) : Option Ann :=
  match canon keep mats s with
  | some c => some { α := α, S := fun x => { c with sl := updSl (U x) c.sl, H := updH (O x) c.H }, I := I c, μ := μ, keep := keep, mats := mats }
  | none => none

def intAt (s : St) (i : Nat) : Int := match sget s.sl i with
  | .t (.one (.int _ n)) => n
  | _ => 0

def boolAt (s : St) (i : Nat) : Bool := match sget s.sl i with
  | .t (.one (.bool b)) => b
  | .t (.one (.lit b)) => b
  | _ => false

def rowAt (τ : Ty) (s : St) (n : Nat) : List τ.D := match objAt s.H n with
  | .row _ a xs => match decEq a τ with
    | isTrue q => castL q xs
    | isFalse _ => []
  | _ => []

def cellAt (s : St) (n k : Nat) : Int := match objAt s.H n with
  | .cells _ cs => match cs[k]? with
    | some (.int _ n) => n
    | _ => 0
  | _ => 0

/-! ### Tables -/
def look (l : List (Nat × Spec)) : Tab := fun f => match l with
  | [] => none
  | (g, S) :: r => match Nat.beq g f with
    | true => some S
    | false => look r f

theorem look_nil (P : Program) : TabOK P (look []) := fun f S h => by cases h

theorem look_cons {P : Program} {l : List (Nat × Spec)} {g : Nat} {S : Spec} (hl : TabOK P (look l)) (h : ∀ vs H K, S.cps vs H K → Sat P g vs H K) : TabOK P (look ((g, S) :: l)) := by
  intro f S' hf
  simp only [look] at hf
  split at hf
  · rename_i q
    cases hf
    have := Nat.eq_of_beq_eq_true q
    subst this
    exact h
  · exact hl f S' hf

theorem wrap64 {n : Int} (h1 : -9223372036854775808 ≤ n) (h2 : n ≤ 9223372036854775807) : IntKind.i64.wrap n = n := by
  rw [IntKind.wrap_i64]; omega

theorem wr_eq {n : Int} (h1 : -9223372036854775808 ≤ n) (h2 : n ≤ 9223372036854775807) : wr n = n := wrap64 h1 h2

theorem wrap64n {n : Nat} (h : n ≤ 9223372036854775807) : IntKind.i64.wrap (n : Int) = n := wrap64 (by omega) (by omega)

/-! ### Lists that are written over -/
theorem len_spl {α : Type} (xs : List α) (lo : Nat) (zs : List α) : (spl xs lo zs).length = min lo xs.length + (zs.length + (xs.length - (lo + zs.length))) := by
  simp only [spl, List.length_append, List.length_take, List.length_drop]

theorem spl_get {α : Type} {xs : List α} {lo : Nat} {zs : List α} (h : lo + zs.length ≤ xs.length) (k : Nat) : (spl xs lo zs)[k]? = if k < lo then xs[k]? else if k < lo + zs.length then zs[k - lo]? else xs[k]? := by
  have hl : (xs.take lo).length = lo := by simp; omega
  unfold spl
  rw [List.getElem?_append, hl]
  split
  · rename_i q; rw [List.getElem?_take, if_pos q]
  · rw [List.getElem?_append]
    split
    · rw [if_pos (by omega)]
    · rw [if_neg (by omega), List.getElem?_drop]; congr 1; omega

theorem insL_get {α : Type} {xs : List α} {i : Nat} (zs : List α) (h : i ≤ xs.length) (k : Nat) : (xs.take i ++ zs ++ xs.drop i)[k]? = if k < i then xs[k]? else if k < i + zs.length then zs[k - i]? else xs[k - zs.length]? := by
  have hl : (xs.take i).length = i := by simp; omega
  rw [List.append_assoc, List.getElem?_append, hl]
  split
  · rename_i q; rw [List.getElem?_take, if_pos q]
  · rw [List.getElem?_append]
    split
    · rw [if_pos (by omega)]
    · rw [if_neg (by omega), List.getElem?_drop]; congr 1; omega

/-- An insertion in place. -/
theorem ins_room {α : Type} {xs js zs A : List α} {i n : Nat} (h : i ≤ xs.length) (hr : xs.length + zs.length ≤ xs.length + js.length) (hn : n = xs.length + zs.length) (hA : ∀ k, A[k]? = if k < xs.length - i then xs[i + k]? else none) :
    (spl (spl (xs ++ js) (i + zs.length) A) i zs).take n = xs.take i ++ zs ++ xs.drop i := by
  have hAl : A.length = xs.length - i := by
    have h1 := hA (xs.length - i)
    rw [if_neg (Nat.lt_irrefl _), List.getElem?_eq_none_iff] at h1
    rcases Nat.eq_zero_or_pos (xs.length - i) with h0 | h0
    · omega
    · have h2 := hA (xs.length - i - 1)
      rw [if_pos (by omega)] at h2
      have : xs[i + (xs.length - i - 1)]? ≠ none := by rw [ne_eq, List.getElem?_eq_none_iff]; omega
      rw [← h2, ne_eq, List.getElem?_eq_none_iff] at this
      omega
  apply List.ext_getElem?
  intro k
  rw [List.getElem?_take, insL_get zs h, spl_get (by rw [len_spl]; simp; omega), spl_get (by simp; omega)]
  simp only [hA, hAl, List.getElem?_append]
  subst hn
  repeat' split
  all_goals first | rfl | (exfalso; omega) | (congr 1; omega) | (rw [List.getElem?_eq_none (by omega)]) | (symm; rw [List.getElem?_eq_none (by omega)])

/-- An insertion into a new row. -/
theorem ins_new {α : Type} {xs ys zs A B : List α} {i : Nat} (h : i ≤ xs.length) (hy : ys.length = xs.length + zs.length) (hp : ys.take i = xs.take i) (hB : B = zs) (hA : ∀ k, A[k]? = if k < xs.length - i then xs[i + k]? else none) :
    spl (spl ys i B) (i + zs.length) A = xs.take i ++ zs ++ xs.drop i := by
  subst hB
  have hAl : A.length = xs.length - i := by
    have h1 := hA (xs.length - i)
    rw [if_neg (Nat.lt_irrefl _), List.getElem?_eq_none_iff] at h1
    rcases Nat.eq_zero_or_pos (xs.length - i) with h0 | h0
    · omega
    · have h2 := hA (xs.length - i - 1)
      rw [if_pos (by omega)] at h2
      have : xs[i + (xs.length - i - 1)]? ≠ none := by rw [ne_eq, List.getElem?_eq_none_iff]; omega
      rw [← h2, ne_eq, List.getElem?_eq_none_iff] at this
      omega
  apply List.ext_getElem?
  intro k
  rw [insL_get B h, spl_get (by rw [len_spl]; omega), spl_get (by omega)]
  have hpk : k < i → ys[k]? = xs[k]? := fun hk => by
    have : (ys.take i)[k]? = (xs.take i)[k]? := by rw [hp]
    rwa [List.getElem?_take, List.getElem?_take, if_pos hk, if_pos hk] at this
  simp only [hA, hAl]
  repeat' split
  all_goals first | rfl | (exfalso; omega) | (congr 1; omega) | exact hpk (by omega) | (rw [List.getElem?_eq_none (by omega), List.getElem?_eq_none (by omega)])

theorem tail_get {α : Type} {xs js : List α} {i m : Nat} (hm : xs.length - i ≤ m) (hi : i ≤ xs.length) (a : Nat) (ha : a = xs.length - i) : ∀ k, (((xs ++ js).drop i |>.take m).take a)[k]? = if k < xs.length - i then xs[i + k]? else none := by
  intro k
  subst ha
  rw [List.getElem?_take]
  split
  · rw [List.getElem?_take, if_pos (by omega), List.getElem?_drop, List.getElem?_append_left (by omega)]
  · rfl

end Go.Proofs.Ythjogeodclpafaa.AM
