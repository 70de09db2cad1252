/- Symbolic execution of the abstract machine's code: small laws. -/
import Derived.Test.YtgjconibaflaaaaGreatDoorAbMemo
import Derived.RowKit
import Derived.Laws.BitsLemmas
import Derived.KernelRfl
namespace Go.Ab
open Go
set_option linter.unusedSimpArgs false
theorem callA_of {X : CallSem} {f : FuncId} {args : List AV} {h : Heap} (R : List Nat) (as' : List AV) (h0 : Heap) {v v2 : AV} {h' h2 : Heap} (hR : reach h 1000 (refsL args) [] = R) (ha : renL (pos R) args = as') (hp : pack h R (pos R) = h0) (hX : X f as' h0 = some (v, h'))
    (hv : v.ren (fun i => match R[i]? with | some id => some id | none => some (h.length + (i - R.length))) = v2) (hu : unpack h R h' (fun i => match R[i]? with | some id => some id | none => some (h.length + (i - R.length))) = h2) : callA X f args h = some (v2, h2) := by
  simp only [callA, hR, ha, hp, hX]
  exact congrArg some (Prod.ext hv hu)
theorem wrap_small {x : Int} (h0 : 0 ≤ x) (h1 : x < 2 ^ 60) : IntKind.i64.wrap x = x := by rw [IntKind.wrap_i64]; omega
theorem wrap_succ (i : Nat) (h : i < 2 ^ 59) : IntKind.i64.wrap ((i : Int) + 1) = ((i + 1 : Nat) : Int) := by rw [IntKind.wrap_i64]; omega
end Go.Ab
namespace Go.Ab
open Go
theorem callA_pure {X : CallSem} {f : FuncId} {args : List AV} {h : Heap} {v : AV} (h1 : refsL args = []) (h2 : X f args [] = some (v, [])) (h3 : renL (pos []) args = args) (h4 : ∀ σ, v.ren σ = v) : callA X f args h = some (v, h) := by
  have hr : reach h 1000 (refsL args) [] = [] := by rw [h1]; rfl
  refine callA_of [] args [] hr h3 rfl h2 (h4 _) ?_
  simp [unpack]
end Go.Ab
namespace Go.Ab
open Go
theorem XC_ret {T : FuncId → Option Entry} {f : FuncId} {a : AFun} {args : List AV} {h : Heap} {r : Ex × St} {v : AV} {h' : Heap} (hf : T f = some (.code a)) (hx : Xe T h.length a.body (enter args h) = some r) (hfin : finish a h.length r = some (v, h')) : XC T f args h = some (v, h') := by
  rw [XC_code hf, hx]; exact hfin
end Go.Ab
namespace Go.Ab
open Go
theorem kk64 : (IntKind.i64 == IntKind.i64) = true := rfl
end Go.Ab
namespace Go.Ab
open Go
theorem cast0 : ((0 : Nat) : Int) = 0 := rfl
theorem cast1 : ((1 : Nat) : Int) = 1 := rfl
theorem castL (n : Nat) : ((OfNat.ofNat n : Nat) : Int) = OfNat.ofNat n := rfl
end Go.Ab
namespace Go.Ab
theorem bft : (false == true) = false := rfl
theorem btf : (true == false) = false := rfl
theorem bff : (false == false) = true := rfl
theorem btt : (true == true) = true := rfl
end Go.Ab
