/- Parts of the proof. Plain lemmas that the conditions of functions want; objects are given up behind a call. Rows that the cells of objects or the result name are frozen behind a call: then they are told as lists. From a contract over abstract heaps to what a law's row asks: arguments that are only read. Arguments that are only read, of any type without pointers and maps: what the row says of them is what the machine says. Small facts on lists. -/
import Derived.Test.YthjogeodclpafaaM2
import Derived.WalkKit
import Derived.ProofKit
import Derived.OpenShut
import Derived.ShutString
import Derived.ChangeOld
import Derived.Below
import Derived.Carry
import Derived.SizedLaws
import Derived.ChangeArms
set_option linter.unusedVariables false
set_option linter.unusedSimpArgs false

section
set_option linter.unusedVariables false
set_option linter.unusedSimpArgs false
namespace Go.Proofs.Ythjogeodclpafaa.AM
open Go

/-- These names are given up. -/
def killN : List Nat → List AObj → List AObj
  | [], H => H
  | n :: r, H => killN r (H.set n .dead)

theorem killN_trans {β : List Value} {H : List AObj} {Z : Nat → Prop} {w : World} : ∀ (ns : List Nat), HeapOK β H Z w → Trans β H Z w β (killN ns H) Z w
  | [], h => Trans.refl h
  | n :: r, h => (Trans.kill h n).trans (killN_trans r (Trans.kill h n).heap)

theorem Sat.killed {P : Program} {f : FuncId} {args : List SV} {H : List AObj} {K : SV → List AObj → Prop} (ns : List Nat) (h : Sat P f args H fun r H' => K r (killN ns H')) : Sat P f args H K := by
  intro β Z w cargs hh hargs
  refine (h β Z w cargs hh hargs).mono ?_
  rintro e w' ⟨v, r, H', β', Z', rfl, hK, hr, t⟩
  have tk := killN_trans ns t.heap
  exact ⟨v, r, killN ns H', β', Z', rfl, hK, hr.trans t.heap tk, t.trans tk⟩

theorem Sat.mono {P : Program} {f : FuncId} {args : List SV} {H : List AObj} {K K' : SV → List AObj → Prop} (h : Sat P f args H K) (hK : ∀ r H', K r H' → K' r H') : Sat P f args H K' := by
  intro β Z w cargs hh hargs
  refine (h β Z w cargs hh hargs).mono ?_
  rintro e w' ⟨v, r, H', β', Z', rfl, hk, hr, t⟩
  exact ⟨v, r, H', β', Z', rfl, hK _ _ hk, hr, t⟩

/-! ### Results are put in order: objects of the entry get names behind -/
def moves : List Nat → SV → List AObj → SV × List AObj
  | [], r, H => (r, H)
  | n :: ns, r, H => match objAt H n with
    | .dead => moves ns r H
    | .frow _ _ _ => moves ns r H
    | o => moves ns (r.ren (moveRen n H.length)) (renO (moveRen n H.length) (H.set n .dead ++ [o]))

def settle (n0 : Nat) (ms : List Nat) (r : SV) (H : List AObj) : Option (SV × List AObj) :=
  match moves ms r H with
  | (r1, H1) => match reach H1 (rangeN 0 n0 ++ r1.names) with
    | ns => match partOf H1 ns, allIn ns r1.names, eqList (ns.take n0) (rangeN 0 n0) with
      | some Hl, true, true => some (r1.ren (fun n => idxN n ns), Hl)
      | _, _, _ => none

theorem moves_trans {Z : Nat → Prop} {w : World} : ∀ (ns : List Nat) (r : SV) (β : List Value) (H : List AObj) (x : Value), HeapOK β H Z w → r.conc β Z w x → ∃ β', Trans β H Z w β' (moves ns r H).2 Z w ∧ (moves ns r H).1.conc β' Z w x
  | [], r, β, H, x, hh, hr => ⟨β, Trans.refl hh, hr⟩
  | n :: ns, r, β, H, x, hh, hr => by
    unfold moves
    have main : objAt H n ≠ .dead → (objAt H n).live = true → ∃ β', Trans β H Z w β' (moves ns (r.ren (moveRen n H.length)) (renO (moveRen n H.length) (H.set n .dead ++ [objAt H n]))).2 Z w ∧ (moves ns (r.ren (moveRen n H.length)) (renO (moveRen n H.length) (H.set n .dead ++ [objAt H n]))).1.conc β' Z w x := by
      intro hne hlv
      have hget := objAt_get (H := H) (n := n) rfl hne
      have hlt : n < H.length := (List.getElem?_eq_some_iff.1 hget).1
      obtain ⟨v, hb, _, _, hob⟩ := hh.get hlt
      have hob' : ObjOK (β ++ [v]) Z w v (objAt H n) := hob.mono (ZKeep.refl Z w) fun _ _ _ => rfl
      have t1 := Trans.regrow hh hget hlv hb (Keep.refl _ _) (fun b hb' => .inl hb') (fun b hb' => LiveB.lt hh ⟨n, _, v, hget, hlv, hb, hb'⟩) hob'
      have hρ : ∀ m u, (β ++ [v])[m]? = some u → (β ++ [v])[moveRen n H.length m]? = some u := by
        intro m u hu
        unfold moveRen
        split
        · rename_i q
          have := Nat.eq_of_beq_eq_true q
          subst this
          rw [get_app hb] at hu
          cases hu
          exact last_name hh _
        · exact hu
      have t2 := renO_trans t1.heap hρ
      have hr1 : (r.ren (moveRen n H.length)).conc (β ++ [v]) Z w x := (hr.trans hh t1).ren fun m _ u hu => hρ m u hu
      obtain ⟨β', t3, h3⟩ := moves_trans ns _ _ _ x t2.heap hr1
      exact ⟨β', (t1.trans t2).trans t3, h3⟩
    split
    · exact moves_trans ns r β H x hh hr
    · exact moves_trans ns r β H x hh hr
    · rename_i o h1 h2
      refine main h1 ?_
      cases ho : objAt H n with
      | dead => exact absurd ho h1
      | frow e τ xs => exact absurd ho (h2 e τ xs)
      | _ => rfl

@[irreducible] def settleK (n0 : Nat) (ms : List Nat) (K : SV → List AObj → Prop) (r : SV) (H : List AObj) : Prop :=
  match settle n0 ms r H with
  | some (r', H') => K r' H'
  | none => False

/-- The result is put in order: then what is to be shown has one form only. -/
theorem Sat.settled {P : Program} {f : FuncId} {args : List SV} {H : List AObj} {K : SV → List AObj → Prop} (ms : List Nat) (h : Sat P f args H (settleK H.length ms K)) : Sat P f args H K := by
  intro β Z w cargs hh hargs
  refine (h β Z w cargs hh hargs).mono ?_
  rintro e w' ⟨v, r, H', β', Z', rfl, hK, hr, t⟩
  unfold settleK at hK
  split at hK
  · rename_i r' H'' hs
    obtain ⟨β1, t1, h1⟩ := moves_trans ms r β' H' v t.heap hr
    unfold settle at hs
    split at hs
    rename_i r1 H1 hm
    rw [hm] at t1 h1
    dsimp only at t1 h1 hs
    generalize reach H1 (rangeN 0 H.length ++ r1.names) = ns at hs
    split at hs
    · rename_i Hl hp hin heq
      cases hs
      have he := eqList_eq heq
      rw [rangeN_eq] at he
      exact ⟨v, _, _, partB β1 ns, Z', rfl, hK, h1.ren (renOK_idx (allIn_iff.1 hin)), part_trans (t.trans t1) hh.len.symm hp he⟩
    · cases hs
  · exact hK.elim

/-- A nil slice that is handed back gets a name. -/
def matR (e : TypeId) (τ : Ty) (r : SV) (H : List AObj) : SV × List AObj :=
  match r with
  | .t (.one .nils) => (.b (.hd H.length), H ++ [.row e τ []])
  | r => (r, H)

theorem Sat.matted {P : Program} {f : FuncId} {args : List SV} {H : List AObj} {K : SV → List AObj → Prop} (e : TypeId) (τ : Ty) (h : Sat P f args H fun r H' => K (matR e τ r H').1 (matR e τ r H').2) : Sat P f args H K := by
  intro β Z w cargs hh hargs
  refine (h β Z w cargs hh hargs).mono ?_
  rintro e' w' ⟨v, r, H', β', Z', rfl, hK, hr, t⟩
  unfold matR at hK
  split at hK
  · have hv : v = .slice none 0 0 := by
      have : [v] = [Value.slice none 0 0] := hr
      simpa using this
    subst hv
    exact ⟨_, _, _, _, Z', rfl, hK, ⟨none, 0, 0, last_name t.heap _, rfl⟩, t.trans (Trans.nil t.heap e τ)⟩
  · exact ⟨v, r, H', β', Z', rfl, hK, hr, t⟩

/-- Wrapping round at 64 bits. -/
abbrev wr (n : Int) : Int := IntKind.i64.wrap n

/-! ### Annotations -/
def updSl (us : List (Nat × SV)) : List (Nat × SV) → List (Nat × SV)
  | [] => []
  | (i, v) :: r => match sget us i with
    | .any => (i, v) :: updSl us r
    | u => (i, u) :: updSl us r

def updH (os : List (Nat × AObj)) (H : List AObj) : List AObj :=
  match os with
  | [] => H
  | (n, o) :: r => updH r (H.set n o)

/-- States like the one at hand, but for these slots and these objects. -/
def annOf {α : Type} (keep : List Nat) (mats : List (Nat × TypeId × Ty)) (s : St) (U : α → List (Nat × SV)) (O : α → List (Nat × AObj)) (I : St → α → Prop) (μ : α → Nat := fun _ => 0) : Option Ann :=
  match canon keep mats s with
  | some c => some { α := α, S := fun x => { c with sl := updSl (U x) c.sl, H := updH (O x) c.H }, I := I c, μ := μ, keep := keep, mats := mats }
  | none => none

def intAt (s : St) (i : Nat) : Int := match sget s.sl i with
  | .t (.one (.int _ n)) => n
  | _ => 0

def boolAt (s : St) (i : Nat) : Bool := match sget s.sl i with
  | .t (.one (.bool b)) => b
  | .t (.one (.lit b)) => b
  | _ => false

def rowAt (τ : Ty) (s : St) (n : Nat) : List τ.D := match objAt s.H n with
  | .row _ a xs => match decEq a τ with
    | isTrue q => castL q xs
    | isFalse _ => []
  | _ => []

def cellAt (s : St) (n k : Nat) : Int := match objAt s.H n with
  | .cells _ cs => match cs[k]? with
    | some (.int _ n) => n
    | _ => 0
  | _ => 0

/-! ### Tables -/
def look (l : List (Nat × Spec)) : Tab := fun f => match l with
  | [] => none
  | (g, S) :: r => match Nat.beq g f with
    | true => some S
    | false => look r f

theorem look_nil (P : Program) : TabOK P (look []) := fun f S h => by cases h

theorem look_cons {P : Program} {l : List (Nat × Spec)} {g : Nat} {S : Spec} (hl : TabOK P (look l)) (h : ∀ vs H K, S.cps vs H K → Sat P g vs H K) : TabOK P (look ((g, S) :: l)) := by
  intro f S' hf
  simp only [look] at hf
  split at hf
  · rename_i q
    cases hf
    have := Nat.eq_of_beq_eq_true q
    subst this
    exact h
  · exact hl f S' hf

theorem wrap64 {n : Int} (h1 : -9223372036854775808 ≤ n) (h2 : n ≤ 9223372036854775807) : IntKind.i64.wrap n = n := by
  rw [IntKind.wrap_i64]; omega

theorem wr_eq {n : Int} (h1 : -9223372036854775808 ≤ n) (h2 : n ≤ 9223372036854775807) : wr n = n := wrap64 h1 h2

theorem wrap64n {n : Nat} (h : n ≤ 9223372036854775807) : IntKind.i64.wrap (n : Int) = n := wrap64 (by omega) (by omega)

/-! ### Lists that are written over -/
theorem len_spl {α : Type} (xs : List α) (lo : Nat) (zs : List α) : (spl xs lo zs).length = min lo xs.length + (zs.length + (xs.length - (lo + zs.length))) := by
  simp only [spl, List.length_append, List.length_take, List.length_drop]

theorem spl_get {α : Type} {xs : List α} {lo : Nat} {zs : List α} (h : lo + zs.length ≤ xs.length) (k : Nat) : (spl xs lo zs)[k]? = if k < lo then xs[k]? else if k < lo + zs.length then zs[k - lo]? else xs[k]? := by
  have hl : (xs.take lo).length = lo := by simp; omega
  unfold spl
  rw [List.getElem?_append, hl]
  split
  · rename_i q; rw [List.getElem?_take, if_pos q]
  · rw [List.getElem?_append]
    split
    · rw [if_pos (by omega)]
    · rw [if_neg (by omega), List.getElem?_drop]; congr 1; omega

theorem insL_get {α : Type} {xs : List α} {i : Nat} (zs : List α) (h : i ≤ xs.length) (k : Nat) : (xs.take i ++ zs ++ xs.drop i)[k]? = if k < i then xs[k]? else if k < i + zs.length then zs[k - i]? else xs[k - zs.length]? := by
  have hl : (xs.take i).length = i := by simp; omega
  rw [List.append_assoc, List.getElem?_append, hl]
  split
  · rename_i q; rw [List.getElem?_take, if_pos q]
  · rw [List.getElem?_append]
    split
    · rw [if_pos (by omega)]
    · rw [if_neg (by omega), List.getElem?_drop]; congr 1; omega

/-- An insertion in place. -/
theorem ins_room {α : Type} {xs js zs A : List α} {i n : Nat} (h : i ≤ xs.length) (hr : xs.length + zs.length ≤ xs.length + js.length) (hn : n = xs.length + zs.length) (hA : ∀ k, A[k]? = if k < xs.length - i then xs[i + k]? else none) :
    (spl (spl (xs ++ js) (i + zs.length) A) i zs).take n = xs.take i ++ zs ++ xs.drop i := by
  have hAl : A.length = xs.length - i := by
    have h1 := hA (xs.length - i)
    rw [if_neg (Nat.lt_irrefl _), List.getElem?_eq_none_iff] at h1
    rcases Nat.eq_zero_or_pos (xs.length - i) with h0 | h0
    · omega
    · have h2 := hA (xs.length - i - 1)
      rw [if_pos (by omega)] at h2
      have : xs[i + (xs.length - i - 1)]? ≠ none := by rw [ne_eq, List.getElem?_eq_none_iff]; omega
      rw [← h2, ne_eq, List.getElem?_eq_none_iff] at this
      omega
  apply List.ext_getElem?
  intro k
  rw [List.getElem?_take, insL_get zs h, spl_get (by rw [len_spl]; simp; omega), spl_get (by simp; omega)]
  simp only [hA, hAl, List.getElem?_append]
  subst hn
  repeat' split
  all_goals first | rfl | (exfalso; omega) | (congr 1; omega) | (rw [List.getElem?_eq_none (by omega)]) | (symm; rw [List.getElem?_eq_none (by omega)])

/-- An insertion into a new row. -/
theorem ins_new {α : Type} {xs ys zs A B : List α} {i : Nat} (h : i ≤ xs.length) (hy : ys.length = xs.length + zs.length) (hp : ys.take i = xs.take i) (hB : B = zs) (hA : ∀ k, A[k]? = if k < xs.length - i then xs[i + k]? else none) :
    spl (spl ys i B) (i + zs.length) A = xs.take i ++ zs ++ xs.drop i := by
  subst hB
  have hAl : A.length = xs.length - i := by
    have h1 := hA (xs.length - i)
    rw [if_neg (Nat.lt_irrefl _), List.getElem?_eq_none_iff] at h1
    rcases Nat.eq_zero_or_pos (xs.length - i) with h0 | h0
    · omega
    · have h2 := hA (xs.length - i - 1)
      rw [if_pos (by omega)] at h2
      have : xs[i + (xs.length - i - 1)]? ≠ none := by rw [ne_eq, List.getElem?_eq_none_iff]; omega
      rw [← h2, ne_eq, List.getElem?_eq_none_iff] at this
      omega
  apply List.ext_getElem?
  intro k
  rw [insL_get B h, spl_get (by rw [len_spl]; omega), spl_get (by omega)]
  have hpk : k < i → ys[k]? = xs[k]? := fun hk => by
    have : (ys.take i)[k]? = (xs.take i)[k]? := by rw [hp]
    rwa [List.getElem?_take, List.getElem?_take, if_pos hk, if_pos hk] at this
  simp only [hA, hAl]
  repeat' split
  all_goals first | rfl | (exfalso; omega) | (congr 1; omega) | exact hpk (by omega) | (rw [List.getElem?_eq_none (by omega), List.getElem?_eq_none (by omega)])

theorem tail_get {α : Type} {xs js : List α} {i m : Nat} (hm : xs.length - i ≤ m) (hi : i ≤ xs.length) (a : Nat) (ha : a = xs.length - i) : ∀ k, (((xs ++ js).drop i |>.take m).take a)[k]? = if k < xs.length - i then xs[i + k]? else none := by
  intro k
  subst ha
  rw [List.getElem?_take]
  split
  · rw [List.getElem?_take, if_pos (by omega), List.getElem?_drop, List.getElem?_append_left (by omega)]
  · rfl

end Go.Proofs.Ythjogeodclpafaa.AM
end

section
set_option linter.unusedVariables false
set_option linter.unusedSimpArgs false
namespace Go.Proofs.Ythjogeodclpafaa.AM
open Go

section
variable {β : List Value} {Z : Nat → Prop} {w : World}

def frzObjs : List Nat → List AObj → List AObj
  | [], H => H
  | n :: r, H => frzObjs r (frzObj n H)

theorem frzObjs_trans : ∀ (ns : List Nat) {Z : Nat → Prop} {H : List AObj}, HeapOK β H Z w → ∃ Z', Trans β H Z w β (frzObjs ns H) Z' w
  | [], Z, H, hh => ⟨Z, Trans.refl hh⟩
  | n :: r, Z, H, hh => by
    obtain ⟨Z1, t1⟩ := frzObj_trans n hh
    obtain ⟨Z2, t2⟩ := frzObjs_trans r t1.heap
    exact ⟨Z2, t1.trans t2⟩

def frzT (v : TV) (H : List AObj) : TV × List AObj := match v with
  | .one c => match frz1 c H with
    | (c', H1) => (.one c', H1)
  | .agg cs => match frzGo cs H with
    | (cs', H1) => (.agg cs', H1)

theorem frzT_conc {H : List AObj} (v : TV) (hh : HeapOK β H Z w) {x : Value} (h : v.conc β Z w x) : ∃ Z', Trans β H Z w β (frzT v H).2 Z' w ∧ (frzT v H).1.conc β Z' w x := by
  cases v with
  | one c => exact frz1_conc c hh h
  | agg cs =>
    obtain ⟨vs, e, hc⟩ := h
    obtain ⟨Z', t, k⟩ := frzGo_conc cs H Z _ hh hc
    exact ⟨Z', t, vs, e, k⟩

def frzTs : List TV → List AObj → List TV × List AObj
  | [], H => ([], H)
  | v :: r, H => match frzT v H with
    | (v', H1) => match frzTs r H1 with
      | (r', H2) => (v' :: r', H2)

theorem frzTs_conc : ∀ (vs : List TV) {Z : Nat → Prop} {H : List AObj} {xs : List Value}, HeapOK β H Z w → TVs β Z w vs xs → ∃ Z', Trans β H Z w β (frzTs vs H).2 Z' w ∧ TVs β Z' w (frzTs vs H).1 xs
  | [], Z, H, xs, hh, h => ⟨Z, Trans.refl hh, h⟩
  | v :: r, Z, H, xs, hh, ⟨x, xr, e, h1, h2⟩ => by
    obtain ⟨Z1, t1, k1⟩ := frzT_conc v hh h1
    obtain ⟨Z2, t2, k2⟩ := frzTs_conc r t1.heap (TVs.trans hh t1 h2)
    refine ⟨Z2, t1.trans t2, x, xr, e, ?_, k2⟩
    have := k1.mono (ext := []) (t2.zkeep t1.heap)
    rw [List.append_nil] at this
    exact this

def frzR (r : SV) (H : List AObj) : SV × List AObj := match r with
  | .t v => match frzT v H with
    | (v', H1) => (.t v', H1)
  | .tup vs => match frzTs vs H with
    | (vs', H1) => (.tup vs', H1)
  | r => (r, H)

theorem frzR_conc {H : List AObj} (r : SV) (hh : HeapOK β H Z w) {x : Value} (h : r.conc β Z w x) : ∃ Z', Trans β H Z w β (frzR r H).2 Z' w ∧ (frzR r H).1.conc β Z' w x := by
  cases r with
  | any => exact ⟨Z, Trans.refl hh, h⟩
  | t v => exact frzT_conc v hh h
  | tup vs =>
    obtain ⟨xs, e, hc⟩ := h
    obtain ⟨Z', t, k⟩ := frzTs_conc vs hh hc
    exact ⟨Z', t, xs, e, k⟩
  | cond ts g v => exact ⟨Z, Trans.refl hh, h⟩

end

/-- Entry names that are frozen or dead count as given up. -/
def deadF : List AObj → List AObj
  | [] => []
  | o :: r => (match o with
    | .frow _ _ _ => .dead
    | o => o) :: deadF r

theorem deadF_get (H : List AObj) (n : Nat) : (deadF H)[n]? = (H[n]?).map fun o => match o with
    | .frow _ _ _ => .dead
    | o => o := by
  induction H generalizing n with
  | nil => rfl
  | cons o r ih => cases n with
    | zero => rfl
    | succ n => simpa [deadF] using ih n

theorem deadF_len (H : List AObj) : (deadF H).length = H.length := by
  induction H with
  | nil => rfl
  | cons o r ih => simp [deadF, ih]

theorem deadF_trans {β : List Value} {Z : Nat → Prop} {w : World} {H : List AObj} (hh : HeapOK β H Z w) : Trans β H Z w β (deadF H) Z w := by
  have get : ∀ {n : Nat} {o : AObj}, (deadF H)[n]? = some o → o = .dead ∨ H[n]? = some o := by
    intro n o h
    rw [deadF_get] at h
    cases hp : H[n]? with
    | none => rw [hp] at h; cases h
    | some p =>
      rw [hp] at h
      simp only [Option.map_some, Option.some.injEq] at h
      split at h
      · exact .inl h.symm
      · exact .inr (by rw [h])
  have live : ∀ b, LiveB β (deadF H) b → LiveB β H b := by
    rintro b ⟨n, o, v, h1, h2, h3, h4⟩
    rcases get h1 with rfl | hp
    · cases h2
    · exact ⟨n, o, v, hp, h2, h3, h4⟩
  refine ⟨⟨[], by simp⟩, ⟨by rw [deadF_len]; exact hh.len, ?_, ?_, fun b hb => hh.frz b (live b hb), hh.zlt⟩, Keep.refl _ _, fun _ h => h, fun _ h => .inl h, fun b hb => .inl (live b hb)⟩
  · intro n o v h1 h2
    rcases get h1 with rfl | hp
    · trivial
    · exact hh.objs n o v hp h2
  · intro n m o p u v b h1 h2 h3 h4 h5 h6 h7 h8
    rcases get h1 with rfl | g1
    · cases h3
    · rcases get h2 with rfl | g2
      · cases h4
      · exact hh.apart n m o p u v b g1 g2 h3 h4 h5 h6 h7 h8

/-- Frozen: the objects 'ns' and the result; then put in order. -/
@[irreducible] def frozenK (n0 : Nat) (ns ms : List Nat) (K : SV → List AObj → Prop) (r : SV) (H : List AObj) : Prop :=
  match frzR r (frzObjs ns H) with
  | (r1, H1) => match settle n0 ms r1 (deadF H1) with
    | some (r', H') => K r' H'
    | none => False

/-- The rows of these objects and of the result are frozen behind the call. -/
theorem Sat.frozen {P : Program} {f : FuncId} {args : List SV} {H : List AObj} {K : SV → List AObj → Prop} (ns ms : List Nat) (h : Sat P f args H (frozenK H.length ns ms K)) : Sat P f args H K := by
  intro β Z w cargs hh hargs
  refine (h β Z w cargs hh hargs).mono ?_
  rintro e w' ⟨v, r, H', β', Z', rfl, hK, hr, t⟩
  unfold frozenK at hK
  split at hK
  rename_i r1 H1 hf
  obtain ⟨Z1, t1⟩ := frzObjs_trans ns t.heap
  obtain ⟨Z2, t2, k2⟩ := frzR_conc r t1.heap (hr.trans t.heap t1)
  rw [hf] at t2 k2
  dsimp only at t2 k2
  have t3 := deadF_trans t2.heap
  have k3 := k2.trans t2.heap t3
  have tt := ((t.trans t1).trans t2).trans t3
  split at hK
  · rename_i r' H'' hs
    obtain ⟨β1, t4, h4⟩ := moves_trans ms r1 β' (deadF H1) v t3.heap k3
    unfold settle at hs
    split at hs
    rename_i r2 H2 hm
    rw [hm] at t4 h4
    dsimp only at t4 h4 hs
    generalize reach H2 (rangeN 0 H.length ++ r2.names) = nr at hs
    split at hs
    · rename_i Hl hp hin heq
      cases hs
      have he := eqList_eq heq
      rw [rangeN_eq] at he
      exact ⟨v, _, _, partB β1 nr, Z2, rfl, hK, h4.ren (renOK_idx (allIn_iff.1 hin)), part_trans (tt.trans t4) hh.len.symm hp he⟩
    · cases hs
  · exact hK.elim

end Go.Proofs.Ythjogeodclpafaa.AM
end

section
set_option linter.unusedVariables false
set_option linter.unusedSimpArgs false
namespace Go.Proofs.Ythjogeodclpafaa.AM
open Go Go.RowKit

/-- Blocks that are there before the call. -/
def Old (W : World) (b : Nat) : Prop := b < W.heap.size

theorem heap_nil (W : World) : HeapOK [] [] (Old W) W := by
  have nl : ∀ b, ¬ LiveB [] [] b := by rintro b ⟨n, o, v, h, _⟩; cases h
  exact ⟨rfl, (fun n o v h => by cases h), (fun n m o p u v b h => by cases h), (fun b hb => (nl b hb).elim), fun b hb => hb⟩

theorem enc_ints (Z : Nat → Prop) (W : World) (k : IntKind) : ∀ (xs : List Int), EncAll ((Ty.int k).Enc Z W) xs (xs.map (Value.int k))
  | [] => rfl
  | x :: xs => ⟨[.int k x], xs.map (Value.int k), rfl, rfl, enc_ints Z W k xs⟩

theorem fsl_none (W : World) (e : TypeId) (τ : Ty) : (SV.t (.one (.fsl e τ []))).conc [] (Old W) W (.slice none 0 0) :=
  ⟨_, rfl, none, 0, [], rfl, Nat.le_refl _, by unfold maxLen; omega, rfl, fun h => absurd rfl h⟩

theorem fsl_ints {W : World} {e : TypeId} {k : IntKind} {a : Addr} {len cap : Nat} {zs : List Int} (hl : len ≤ cap) (hm : cap ≤ maxLen) (hz : zs.length = cap) (hc : ∀ i, i < zs.length → W.cell? (a.add i) = some (.int k (zs.getD i 0))) :
    (SV.t (.one (.fsl e (.int k) (zs.take len)))).conc [] (Old W) W (.slice (some a) len cap) := by
  have hlen : (zs.take len).length = len := by simp; omega
  refine ⟨_, rfl, ?_⟩
  rw [hlen]
  refine ⟨some a, cap, (zs.take len).map (Value.int k), rfl, hl, hm, enc_ints _ _ _ _, fun hne => ⟨a, rfl, ?_, ?_, fun j u hj => ?_⟩⟩
  · have := hc 0 (by omega)
    rw [show a.add 0 = a by simp [Addr.add]] at this
    exact World.cell?_spot this
  · have := hc 0 (by omega)
    rw [show a.add 0 = a by simp [Addr.add]] at this
    exact World.block_lt_of_cell? W a this
  · have hjl : j < len := by
      have := (List.getElem?_eq_some_iff.1 hj).1
      rw [List.length_map, hlen] at this; exact this
    rw [hc j (by omega)]
    rw [List.getElem?_map, List.getElem?_take, if_pos hjl, List.getElem?_eq_getElem (by omega)] at hj
    rw [List.getD_eq_getElem?_getD, List.getElem?_eq_getElem (by omega)]
    simpa using hj

/-- A law's call: it returns true, and what was there is as it was. -/
theorem law_calls {P : Program} {f : FuncId} {args : List SV} {cargs : List Value} {W : World} (h : Sat P f args [] fun r _ => r = .t (.one (.bool true))) (ha : SVs [] (Old W) W args cargs) :
    Calls P f cargs.toArray W fun e W' => e = .returned (.bool true) ∧ Below W.heap.size W W' := by
  refine (h [] (Old W) W cargs (heap_nil W) ha).mono ?_
  rintro e W' ⟨v, r, H', β', Z', rfl, rfl, hr, t⟩
  have hv : v = .bool true := by
    have : [v] = [Value.bool true] := hr
    simpa using this
  subst hv
  refine ⟨rfl, t.keep.os, t.keep.tape, t.keep.output, t.keep.size, fun b hb => t.keep.block b hb ?_⟩
  rintro ⟨n, o, v, h, _⟩
  cases h

end Go.Proofs.Ythjogeodclpafaa.AM
end

section
set_option linter.unusedVariables false
set_option linter.unusedSimpArgs false
namespace Go.Proofs.Ythjogeodclpafaa.AM
open Go Go.RowKit Go.ChangeShapes Go.WideShapes

def fitF (P : Program) (g : TypeId → Ty → Bool) (tot : Nat) : List Field → Nat → Ty → Bool
  | [], _, _ => false
  | f :: fs, o, τ => (f.offset == o) && (match fs with
    | [] => (o + P.cellsOf f.type == tot) && g f.type τ
    | _ :: _ => match τ with
      | .pair a b => g f.type a && fitF P g tot fs (o + P.cellsOf f.type) b
      | _ => false)

/-- The program's type is the machine's. -/
def fitB (P : Program) : Nat → TypeId → Ty → Bool
  | 0, _, _ => false
  | n + 1, t, τ => match P.underlying t with
    | some (.int k) => match τ with | .int k' => decide (k = k') | _ => false
    | some .bool => match τ with | .bool => true | _ => false
    | some .string => match τ with | .str => true | _ => false
    | some (.slice e) => match τ with | .sl e' a => (e == e') && decide (0 < P.cellsOf e) && fitB P n e a | _ => false
    | some (.struct fs) => fitF P (fitB P n) (P.cellsOf t) fs.toList 0 τ
    | _ => false

/-- Numbers are in their range, strings and lists not too long. -/
def Ty.InR : (τ : Ty) → τ.D → Prop
  | .int k, n => (Lit.int k n).wf = true
  | .bool, _ => True
  | .str, s => (show ByteArray from s).size ≤ maxLen
  | .pair a b, x => a.InR x.1 ∧ b.InR x.2
  | .sl _ a, xs => List.length (α := a.D) xs ≤ maxLen ∧ ∀ x ∈ (show List a.D from xs), a.InR x
  | .arr _ a, xs => ∀ x ∈ (show List a.D from xs), a.InR x

theorem cells_facts {W : World} {base n : Nat} {a : Addr} {cs : List Value} (h : W.cells? base a n = some cs) : cs.length = n ∧ ∀ j u, cs[j]? = some u → W.cell? (a.add j) = some u := by
  unfold World.cells? at h
  split at h
  · have hl := mapM_some_length h
    rw [List.length_range] at hl
    refine ⟨hl, fun j u hj => ?_⟩
    have hjn : j < n := by
      have := (List.getElem?_eq_some_iff.1 hj).1; omega
    have := mapM_some_get h j j (by simp [hjn])
    rw [this]; exact hj
  · cases h

theorem add_add (a : Addr) (i j : Nat) : (a.add i).add j = a.add (i + j) := by
  unfold Addr.add
  by_cases h : i = 0 <;> by_cases h' : j = 0 <;> simp [h, h', Nat.add_assoc]

/-- The elements of a slice, one behind the other. -/
theorem all_fit {W : World} {a : Addr} {c base : Nat} {α : Type} {R : α → List Value → Prop} {Q : α → Prop} {len : Nat} (h : ∀ i, i < len → ∃ cs y, W.cells? base (a.add (i * c)) c = some cs ∧ R y cs ∧ Q y) : ∀ m i, i + m = len →
    ∃ (xs : List α) (cs : List Value), xs.length = m ∧ EncAll R xs cs ∧ (∀ x ∈ xs, Q x) ∧ ∀ j u, cs[j]? = some u → W.cell? (a.add (i * c + j)) = some u
  | 0, i, _ => ⟨[], [], rfl, rfl, (fun x h => by cases h), fun j u h => by simp at h⟩
  | m + 1, i, hm => by
    obtain ⟨cs, y, h1, h2, h3⟩ := h i (by omega)
    obtain ⟨xs, cr, e1, e2, e3, e4⟩ := all_fit h m (i + 1) (by omega)
    obtain ⟨hl, hc⟩ := cells_facts h1
    refine ⟨y :: xs, cs ++ cr, by simp [e1], ⟨cs, cr, rfl, h2, e2⟩, fun x hx => ?_, fun j u hj => ?_⟩
    · rcases List.mem_cons.1 hx with rfl | hx
      · exact h3
      · exact e3 x hx
    · by_cases q : j < cs.length
      · rw [List.getElem?_append_left q] at hj
        have := hc j u hj
        rw [add_add] at this; exact this
      · rw [List.getElem?_append_right (by omega)] at hj
        have := e4 (j - cs.length) u hj
        rw [hl, Nat.add_mul, Nat.one_mul] at this
        rw [← this]
        congr 2
        omega

theorem fields_fit {P : Program} {W : World} {g : TypeId → Ty → Bool} {tot : Nat} {cs : List Value} (hlen : cs.length = tot) : ∀ (fs : List Field) (o : Nat) (τ : Ty), fitF P g tot fs o τ = true →
    (∀ f ∈ fs, ∀ σ : Ty, g f.type σ = true → ∃ y : σ.D, σ.Enc (Old W) W y ((cs.drop f.offset).take (P.cellsOf f.type)) ∧ σ.InR y) → ∃ y : τ.D, τ.Enc (Old W) W y (cs.drop o) ∧ τ.InR y
  | [], o, τ, h, _ => by cases h
  | [f], o, τ, h, hf => by
    simp only [fitF, Bool.and_eq_true, beq_iff_eq] at h
    obtain ⟨h1, h2, h3⟩ := h
    obtain ⟨y, hy⟩ := hf f (by simp) τ h3
    rw [h1, List.take_of_length_le (by rw [List.length_drop]; omega)] at hy
    exact ⟨y, hy⟩
  | f :: f' :: fs, o, τ, h, hf => by
    cases τ with
    | pair a b =>
      have h : ((f.offset == o) && (g f.type a && fitF P g tot (f' :: fs) (o + P.cellsOf f.type) b)) = true := h
      rw [Bool.and_eq_true, Bool.and_eq_true, beq_iff_eq] at h
      obtain ⟨h1, h2, h3⟩ := h
      obtain ⟨y, hy, ry⟩ := hf f (by simp) a h2
      obtain ⟨z, hz, rz⟩ := fields_fit hlen (f' :: fs) _ b h3 fun x hx => hf x (by simp [hx])
      rw [h1] at hy
      refine ⟨(y, z), ⟨_, _, ?_, hy, hz⟩, ry, rz⟩
      rw [← List.drop_drop, List.take_append_drop]
    | _ => simp [fitF] at h

theorem trod_fit {H : Type} {enc : TypeId × Value → H} {P : Program} {W : World} {base : Nat} {spare : Nat → Bool} {held : Bool} : ∀ (n : Nat) (t : TypeId) (τ : Ty) (fuel : Nat) (cs : List Value) (x : DataW H × List MemPlace),
    fitB P n t τ = true → DataW.trod enc P W base spare held fuel t cs = some x → ∃ y : τ.D, τ.Enc (Old W) W y cs ∧ τ.InR y
  | 0, t, τ, fuel, cs, x, h, _ => by cases h
  | n + 1, t, τ, fuel, cs, x, h, hx => by
    unfold fitB at h
    split at h
    · rename_i k ht
      cases τ with
      | int k' =>
        obtain ⟨m, e, _, hw⟩ := DataW.trod_int ht hx
        have hk : k = k' := of_decide_eq_true h
        subst hk
        exact ⟨m, e, hw⟩
      | _ => cases h
    · rename_i ht
      cases τ with
      | bool =>
        obtain ⟨b, e, _⟩ := DataW.trod_bool ht hx
        exact ⟨b, e, trivial⟩
      | _ => cases h
    · rename_i ht
      cases τ with
      | str =>
        obtain ⟨s, e, _, hs⟩ := DataW.trod_string ht hx
        exact ⟨s, e, hs⟩
      | _ => cases h
    · rename_i e ht
      cases τ with
      | sl e' a =>
        simp only [Bool.and_eq_true, beq_iff_eq, decide_eq_true_eq] at h
        obtain ⟨⟨rfl, hpos⟩, h⟩ := h
        rcases DataW.trod_slice ht hx with ⟨rfl, _⟩ | ⟨A, len, cap, elems, rest, m, _, rfl, _, hb, hl, hm, hlen, hel, _⟩
        · exact ⟨[], ⟨_, rfl, none, 0, [], rfl, Nat.le_refl _, Nat.zero_le _, rfl, fun q => absurd rfl q⟩, Nat.zero_le _, fun x hx => by cases hx⟩
        · have each : ∀ i, i < len → ∃ cs y, W.cells? base (A.add (i * P.cellsOf e)) (P.cellsOf e) = some cs ∧ a.Enc (Old W) W y cs ∧ a.InR y := by
            intro i hi
            have := hel i hi
            rw [List.getElem?_eq_getElem (by omega), Option.bind_eq_some_iff] at this
            obtain ⟨ci, h1, h2⟩ := this
            obtain ⟨y, hy, ry⟩ := trod_fit n e a m ci _ h h2
            exact ⟨ci, y, h1, hy, ry⟩
          obtain ⟨xs, cr, e1, e2, e3, e4⟩ := all_fit each len 0 (by omega)
          refine ⟨xs, ⟨_, rfl, some A, cap, cr, by rw [e1], by rw [e1]; exact hl, hm, e2, fun hne => ⟨A, rfl, ?_, ?_, fun j u hj => ?_⟩⟩, by show xs.length ≤ maxLen; omega, e3⟩
          · obtain ⟨ci, y, h1, _⟩ := each 0 (by omega)
            have hc := cells_facts h1
            have := hc.2 0 (ci[0]'(by omega)) (by simp)
            rw [Nat.zero_mul, show (A.add 0).add 0 = A by simp [Addr.add]] at this
            exact World.cell?_spot this
          · obtain ⟨ci, y, h1, _⟩ := each 0 (by omega)
            have hc := cells_facts h1
            have := hc.2 0 (ci[0]'(by omega)) (by simp)
            rw [Nat.zero_mul, show (A.add 0).add 0 = A by simp [Addr.add]] at this
            exact World.block_lt_of_cell? W A this
          · have := e4 j u hj
            rw [Nat.zero_mul, Nat.zero_add] at this
            exact this
      | _ => cases h
    · rename_i fs ht
      obtain ⟨xs, m, _, _, hl, hs, hf⟩ := DataW.trod_struct ht hx
      have := fields_fit (P := P) (W := W) hl fs.toList 0 τ h fun f hfm σ hg => by
        obtain ⟨i, hi⟩ := List.getElem?_of_mem hfm
        have hi' : fs[i]? = some f := by simpa using hi
        have h2 := hf i f hi'
        have hlt : i < xs.length := by rw [hs]; exact (Array.getElem?_eq_some_iff.1 hi').1
        rw [List.getElem?_eq_getElem hlt] at h2
        exact trod_fit n f.type σ m _ _ hg h2
      simpa using this
    · cases h

/-- A list that is only read. -/
theorem open_list {H : Type} {enc : TypeId × Value → H} {P : Program} {W : World} {base b0 : Nat} {spare : Nat → Bool} {held : Bool} {r : Reach} {t e : TypeId} {τ : Ty} {v : Value} {d : DataW H} {ps : List MemPlace} (n : Nat)
    (hs : P.underlying t = some (.slice e)) (hf : fitB P n t (.sl e τ) = true) (hv : Value.okWide P W r b0 t v) (h : DataW.Trod enc P W base spare held t v d ps) :
    ∃ xs : List τ.D, (SV.t (.one (.fsl e τ xs))).conc [] (Old W) W v ∧ xs.length ≤ maxLen ∧ ∀ x ∈ xs, τ.InR x := by
  obtain ⟨fuel, hf'⟩ := h
  obtain ⟨a, len, cap, rfl⟩ := okWide_slice hs hv
  obtain ⟨y, hy, ry⟩ := trod_fit n t (.sl e τ) fuel _ _ hf hf'
  exact ⟨y, hy, ry⟩

/-- A struct. -/
theorem open_struct {H : Type} {enc : TypeId × Value → H} {P : Program} {W : World} {base b0 : Nat} {spare : Nat → Bool} {held : Bool} {r : Reach} {t : TypeId} {τ : Ty} {v : Value} {d : DataW H} {ps : List MemPlace} {fs : Array Field} (n : Nat)
    (hs : P.underlying t = some (.struct fs)) (hf : fitB P n t τ = true) (hv : Value.okWide P W r b0 t v) (h : DataW.Trod enc P W base spare held t v d ps) :
    ∃ x : τ.D, (SV.t (.agg (τ.enc x))).conc [] (Old W) W v ∧ τ.InR x := by
  obtain ⟨fuel, hf'⟩ := h
  have hv' := hv
  unfold Value.okWide at hv'
  rw [hs] at hv'
  obtain ⟨cs, rfl, _, _⟩ := hv'
  obtain ⟨y, hy, ry⟩ := trod_fit n t τ fuel _ _ hf hf'
  exact ⟨y, ⟨cs, rfl, enc_conc τ hy⟩, ry⟩

/-- A string. -/
theorem open_str {H : Type} {enc : TypeId × Value → H} {P : Program} {W : World} {base b0 : Nat} {spare : Nat → Bool} {held : Bool} {r : Reach} {t : TypeId} {v : Value} {d : DataW H} {ps : List MemPlace}
    (hs : P.underlying t = some .string) (hv : Value.okWide P W r b0 t v) (h : DataW.Trod enc P W base spare held t v d ps) :
    ∃ s : ByteArray, (SV.t (.one (.str s))).conc [] (Old W) W v ∧ s.size ≤ maxLen := by
  obtain ⟨s, rfl, _, _, hl⟩ := Go.ChangeMaps.open_string hs hv h
  exact ⟨s, rfl, hl⟩

end Go.Proofs.Ythjogeodclpafaa.AM
end

section
set_option linter.unusedSimpArgs false
namespace Go.Proofs.Ythjogeodclpafaa.AM
open Go

theorem take_next {α : Type} {l : List α} {x : Nat} (z : α) (h : x < l.length) : l.take (x + 1) = l.take x ++ [l.getD x z] := by
  rw [List.take_succ_eq_append_getElem h, List.getD_eq_getElem?_getD, List.getElem?_eq_getElem h]; rfl

theorem getD_mem {α : Type} {l : List α} {x : Nat} (z : α) (h : x < l.length) : l.getD x z ∈ l := by
  rw [List.getD_eq_getElem?_getD, List.getElem?_eq_getElem h]; exact List.getElem_mem h

theorem getD_get? {α : Type} {l : List α} {x : Nat} (z : α) (h : x < l.length) : l[x]? = some (l.getD x z) := by
  rw [List.getD_eq_getElem?_getD, List.getElem?_eq_getElem h]; rfl

theorem tw_succ {α : Type} {p : α → Bool} (z : α) : ∀ (l : List α) (x : Nat), x ≤ (l.takeWhile p).length → x < l.length → p (l.getD x z) = true → x + 1 ≤ (l.takeWhile p).length
  | [], x, _, h, _ => by simp at h
  | a :: l, 0, _, _, h => by
    have : p a = true := by simpa using h
    simp [List.takeWhile_cons, this]
  | a :: l, x + 1, h0, h1, h2 => by
    rw [List.takeWhile_cons] at h0 ⊢
    split at h0
    · rename_i q
      have := tw_succ z l x (by simpa using h0) (by simpa using h1) (by simpa using h2)
      simp [q]; omega
    · simp at h0

theorem tw_stop {α : Type} {p : α → Bool} (z : α) : ∀ (l : List α) (x : Nat), x ≤ (l.takeWhile p).length → (x < l.length → p (l.getD x z) = false) → x = (l.takeWhile p).length
  | [], x, h, _ => by simpa using h
  | a :: l, 0, _, h => by
    have : p a = false := by simpa using h (by simp)
    simp [List.takeWhile_cons, this]
  | a :: l, x + 1, h0, h => by
    rw [List.takeWhile_cons] at h0 ⊢
    split at h0
    · rename_i q
      have := tw_stop z l x (by simpa using h0) (fun hx => by simpa using h (by simpa using hx))
      simp [q, ← this]
    · simp at h0

theorem tw_le {α : Type} (p : α → Bool) (l : List α) : (l.takeWhile p).length ≤ l.length := List.Sublist.length_le (List.takeWhile_sublist p)

theorem fi_succ {α : Type} {p : α → Bool} (z : α) : ∀ (l : List α) (x : Nat), x ≤ l.findIdx p → x < l.length → p (l.getD x z) = false → x + 1 ≤ l.findIdx p
  | [], x, _, h, _ => by simp at h
  | a :: l, 0, _, _, h => by
    have : p a = false := by simpa using h
    simp [List.findIdx_cons, this]
  | a :: l, x + 1, h0, h1, h2 => by
    rw [List.findIdx_cons] at h0 ⊢
    cases q : p a with
    | true => rw [q] at h0; simp at h0
    | false =>
      rw [q] at h0
      have := fi_succ z l x (by simpa using h0) (by simpa using h1) (by simpa using h2)
      simp; omega

theorem fi_hit {α : Type} {p : α → Bool} (z : α) : ∀ (l : List α) (x : Nat), x ≤ l.findIdx p → x < l.length → p (l.getD x z) = true → l.findIdx p = x ∧ l.any p = true
  | [], x, _, h, _ => by simp at h
  | a :: l, 0, _, _, h => by
    have : p a = true := by simpa using h
    simp [List.findIdx_cons, this]
  | a :: l, x + 1, h0, h1, h2 => by
    rw [List.findIdx_cons] at h0 ⊢
    cases q : p a with
    | true => rw [q] at h0; simp at h0
    | false =>
      rw [q] at h0
      have := fi_hit z l x (by simpa using h0) (by simpa using h1) (by simpa using h2)
      simp [this, q]

theorem fi_end {α : Type} {p : α → Bool} : ∀ (l : List α), l.length ≤ l.findIdx p → l.any p = false
  | [], _ => rfl
  | a :: l, h => by
    rw [List.findIdx_cons] at h
    cases q : p a with
    | true => rw [q] at h; simp at h
    | false =>
      rw [q] at h
      have := fi_end l (by simpa using h)
      simp [this, q]

/-- The place of the first element for which it holds, or -1. -/
def idxE {α : Type} (p : α → Bool) (ws : List α) : Int := if ws.any p then (ws.findIdx p : Nat) else -1

theorem idxE_hit {α : Type} {p : α → Bool} {ws : List α} {x : Nat} (z : α) (h1 : x ≤ ws.findIdx p) (h2 : x < ws.length) (h3 : p (ws.getD x z) = true) : idxE p ws = x := by
  obtain ⟨a, b⟩ := fi_hit z ws x h1 h2 h3
  unfold idxE; rw [b, a]; rfl

theorem idxE_none {α : Type} {p : α → Bool} {ws : List α} (h : ws.length ≤ ws.findIdx p) : idxE p ws = -1 := by
  unfold idxE; rw [fi_end ws h]; rfl

theorem take_spl {α : Type} (xs : List α) (i : Nat) (zs : List α) (h : i ≤ xs.length) : (spl xs i zs).take i = xs.take i := by
  unfold spl
  rw [List.take_append_of_le_length (by simp; omega), List.take_take, Nat.min_self]

/-- One element is taken out. -/
theorem del_spl {α : Type} {xs js R : List α} {i : Nat} (h : i < xs.length) :
    (spl (spl (xs ++ js) i (List.take (xs.length - (i + 1)) (List.drop (i + 1) xs))) (i + (List.take (xs.length - (i + 1)) (List.drop (i + 1) xs)).length) R).take (i + (List.take (xs.length - (i + 1)) (List.drop (i + 1) xs)).length) = xs.take i ++ xs.drop (i + 1) := by
  have hd : List.take (xs.length - (i + 1)) (List.drop (i + 1) xs) = List.drop (i + 1) xs := List.take_of_length_le (by rw [List.length_drop]; omega)
  rw [hd]
  have hl : (List.drop (i + 1) xs).length = xs.length - (i + 1) := List.length_drop
  rw [take_spl _ _ _ (by rw [len_spl, List.length_append]; omega)]
  unfold spl
  have h1 : (List.take i (xs ++ js)).length = i := by rw [List.length_take, List.length_append]; omega
  have h2 : List.take i (xs ++ js) = List.take i xs := List.take_append_of_le_length (by omega)
  rw [List.take_append, h1, List.take_of_length_le (by omega), h2, Nat.add_sub_cancel_left, List.take_append_of_le_length (Nat.le_refl _), List.take_length]

theorem eqmp {p q : Prop} (h : p) (e : p = q) : q := Eq.mp e h
end Go.Proofs.Ythjogeodclpafaa.AM
end
