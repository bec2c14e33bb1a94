/- From a contract over abstract heaps to what a law's row asks: arguments that are only read. -/
import Derived.Test.YthjogeodclpafaaAmL
import Derived.WalkKit
import Derived.ProofKit
import Derived.OpenShut
import Derived.ShutString
import Derived.ChangeOld
import Derived.Below
import Derived.Carry
import Derived.SizedLaws
set_option linter.unusedVariables false
set_option linter.unusedSimpArgs false
namespace Go.Proofs.Ythjogeodclpafaa.AM
open Go Go.RowKit

/-- Blocks that are there before the call. -/
def Old (W : World) (b : Nat) : Prop := b < W.heap.size

theorem heap_nil (W : World) : HeapOK [] [] (Old W) W := by
  have nl : ∀ b, ¬ LiveB [] [] b := by rintro b ⟨n, o, v, h, _⟩; cases h
  exact ⟨rfl, (fun n o v h => by cases h), (fun n m o p u v b h => by cases h), (fun b hb => (nl b hb).elim), fun b hb => hb⟩

theorem enc_ints (Z : Nat → Prop) (W : World) (k : IntKind) : ∀ (xs : List Int), EncAll ((Ty.int k).Enc Z W) xs (xs.map (Value.int k))
  | [] => rfl
  | x :: xs => ⟨[.int k x], xs.map (Value.int k), rfl, rfl, enc_ints Z W k xs⟩

theorem fsl_none (W : World) (e : TypeId) (τ : Ty) : (SV.t (.one (.fsl e τ []))).conc [] (Old W) W (.slice none 0 0) :=
  ⟨_, rfl, none, 0, [], rfl, Nat.le_refl _, by unfold maxLen; omega, rfl, fun h => absurd rfl h⟩

theorem fsl_ints {W : World} {e : TypeId} {k : IntKind} {a : Addr} {len cap : Nat} {zs : List Int} (hl : len ≤ cap) (hm : cap ≤ maxLen) (hz : zs.length = cap) (hc : ∀ i, i < zs.length → W.cell? (a.add i) = some (.int k (zs.getD i 0))) :
    (SV.t (.one (.fsl e (.int k) (zs.take len)))).conc [] (Old W) W (.slice (some a) len cap) := by
  have hlen : (zs.take len).length = len := by simp; omega
  refine ⟨_, rfl, ?_⟩
  rw [hlen]
  refine ⟨some a, cap, (zs.take len).map (Value.int k), rfl, hl, hm, enc_ints _ _ _ _, fun hne => ⟨a, rfl, ?_, ?_, fun j u hj => ?_⟩⟩
  · have := hc 0 (by omega)
    rw [show a.add 0 = a by simp [Addr.add]] at this
    exact World.cell?_spot this
  · have := hc 0 (by omega)
    rw [show a.add 0 = a by simp [Addr.add]] at this
    exact World.block_lt_of_cell? W a this
  · have hjl : j < len := by
      have := (List.getElem?_eq_some_iff.1 hj).1
      rw [List.length_map, hlen] at this; exact this
    rw [hc j (by omega)]
    rw [List.getElem?_map, List.getElem?_take, if_pos hjl, List.getElem?_eq_getElem (by omega)] at hj
    rw [List.getD_eq_getElem?_getD, List.getElem?_eq_getElem (by omega)]
    simpa using hj

/-- A law's call: it returns true, and what was there is as it was. -/
theorem law_calls {P : Program} {f : FuncId} {args : List SV} {cargs : List Value} {W : World} (h : Sat P f args [] fun r _ => r = .t (.one (.bool true))) (ha : SVs [] (Old W) W args cargs) :
    Calls P f cargs.toArray W fun e W' => e = .returned (.bool true) ∧ Below W.heap.size W W' := by
  refine (h [] (Old W) W cargs (heap_nil W) ha).mono ?_
  rintro e W' ⟨v, r, H', β', Z', rfl, rfl, hr, t⟩
  have hv : v = .bool true := by
    have : [v] = [Value.bool true] := hr
    simpa using this
  subst hv
  refine ⟨rfl, t.keep.os, t.keep.tape, t.keep.output, t.keep.size, fun b hb => t.keep.block b hb ?_⟩
  rintro ⟨n, o, v, h, _⟩
  cases h

end Go.Proofs.Ythjogeodclpafaa.AM
