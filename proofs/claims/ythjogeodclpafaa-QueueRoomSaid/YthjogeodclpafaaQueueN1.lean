/- Conditions of functions in normal form, as printed by a program of this seat. -/
import Derived.Test.YthjogeodclpafaaQueueD
import Derived.KernelRfl
set_option linter.unusedVariables false
namespace Go.Proofs.Ythjogeodclpafaa.AM
open Go Go.Proofs.Ythjogeodclpafaa

theorem nf12 (K : SV → List AObj → Prop) :
 (K (SV.b ((BV.ptr 0 0))) [AObj.cells 76 [BV.hd 1, BV.hd 2, BV.int IntKind.i64 (0 : Int)], AObj.row 52 Item [], AObj.row 54 Lease []])
 = fnVC Try.prog (look []) {} Try.f12 [] [] K := by kernel_rfl

theorem nf14 (n : Int) (s : ByteArray) (K : SV → List AObj → Prop) :
 (K (SV.t (TV.agg [BV.int IntKind.i64 (1 : Int), BV.int IntKind.i64 n, BV.int IntKind.i64 (3 : Int), BV.int IntKind.i64 (1 : Int), BV.int IntKind.i64 n, BV.int IntKind.i64 (0 : Int), BV.str (⟨#[]⟩ : ByteArray), BV.str s])) [])
 = fnVC Try.prog (look []) {} Try.f14 [iv n, sv s] [] K := by kernel_rfl

theorem nf15 (n m : Int) (K : SV → List AObj → Prop) :
 (K (SV.t (TV.agg [BV.int IntKind.i64 (1 : Int), BV.int IntKind.i64 n, BV.int IntKind.i64 (4 : Int), BV.int IntKind.i64 (1 : Int), BV.int IntKind.i64 n, BV.int IntKind.i64 m, BV.str (⟨#[]⟩ : ByteArray), BV.str (⟨#[]⟩ : ByteArray)])) [])
 = fnVC Try.prog (look []) {} Try.f15 [iv n, iv m] [] K := by kernel_rfl

theorem nf39 (x : Ch) (K : SV → List AObj → Prop) :
 (K (SV.b ((BV.bool (decide ((↑(ByteArray.size x.snd.snd.snd.snd.snd.snd.fst) : Int) ≤ (100 : Int)) && decide ((↑(ByteArray.size x.snd.snd.snd.snd.snd.snd.snd) : Int) ≤ (100 : Int)))))) [])
 = fnVC Try.prog (look []) {} Try.f39 [cv x] [] K := by kernel_rfl

theorem nf50 (x : Le) (e t : Int) (K : SV → List AObj → Prop) :
 (K (SV.b ((BV.bool (x.snd.snd.fst == e && decide (t < x.snd.snd.snd))))) [])
 = fnVC Try.prog (look []) {} Try.f50 [lv x, iv e, iv t] [] K := by kernel_rfl

theorem nf69 (s : ByteArray) (K : SV → List AObj → Prop) :
 (K (SV.b ((BV.bool (decide ((↑(ByteArray.size s) : Int) ≥ (1 : Int)) && decide ((↑(ByteArray.size s) : Int) ≤ (16 : Int)))))) [])
 = fnVC Try.prog (look []) {} Try.f69 [sv s] [] K := by kernel_rfl

theorem nf70 (s : ByteArray) (K : SV → List AObj → Prop) :
 (K (SV.b ((BV.bool (decide ((↑(ByteArray.size s) : Int) ≤ (64 : Int)))))) [])
 = fnVC Try.prog (look []) {} Try.f70 [sv s] [] K := by kernel_rfl

theorem nf47 (xs : List Tm) (K : SV → List AObj → Prop) :
 ((xs = [] → K (.b (.nils)) []) ∧ (↑(0 + List.length xs) : Int) * (24 : Int) ≤ (140737488355328 : Int) ∧ (↑(0 + List.length xs) : Int) ≤ (140737488355328 : Int) ∧ K (SV.b ((BV.hd 0))) [AObj.row 52 Item ([] ++ xs)])
 = fnVC Try.prog (look []) {} Try.f47 [ft xs] [] K := by kernel_rfl

theorem nf60 (x : Tm) (n : Int) (K : SV → List AObj → Prop) :
 (K (SV.b ((BV.bool (x.fst == n)))) [AObj.cells 3 [BV.int IntKind.i64 n]])
 = fnVC Try.prog (look []) {} Try.f60 [tv x, pv 0] [.cells 3 [.int .i64 n]] K := by kernel_rfl

theorem nf62 (x : Le) (n : Int) (K : SV → List AObj → Prop) :
 (K (SV.b ((BV.bool (x.fst == n)))) [AObj.cells 3 [BV.int IntKind.i64 n]])
 = fnVC Try.prog (look []) {} Try.f62 [lv x, pv 0] [.cells 3 [.int .i64 n]] K := by kernel_rfl

end Go.Proofs.Ythjogeodclpafaa.AM
