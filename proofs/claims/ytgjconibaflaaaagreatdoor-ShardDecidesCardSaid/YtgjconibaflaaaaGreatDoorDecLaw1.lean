/- ShardDecides answers true, and leaves all as it was, whatever comes in. -/
import Derived.Test.YtgjconibaflaaaaGreatDoorCards
import Derived.Test.YtgjconibaflaaaaGreatDoorTie
import Derived.WalkKit
import Derived.ProofKit
import Derived.OpenShut
import Derived.Deep.DeepHandedRow
import Derived.Lib.LaidTab
import Derived.Test.YtgjconibaflaaaaGreatDoorAbLink
import Derived.Test.YtgjconibaflaaaaGreatDoorChk
import Derived.Test.YtgjconibaflaaaaGreatDoorDec5
namespace Go.Ab
open Go Go.Proofs
theorem law_XC {txn : Int} {ys es : List (List FV)} (hy : ∀ (i : Nat) r, ys[i]? = some r → ∃ b, r = [.bool b]) (he : ∀ (i : Nat) r, es[i]? = some r → ∃ n : Int, r = [.int .u8 n] ∧ 0 ≤ n ∧ n < 256) :
    XC T N.cantonlaw13_ShardDecides [.f (.int .i64 txn), .f (.sl 1 ys), .f (.sl 1 es)] [] = some (.f (.bool true), []) := by
  have key : ∃ s, Xe T 0 B.cantonlaw13_ShardDecides ⟨[(0, .f (.int .i64 txn)), (1, .f (.sl 1 ys)), (2, .f (.sl 1 es))], []⟩ = some (.ret, s) ∧ s.tm = [(6, .f (.bool true))] := by
    by_cases h : 60 < ys.length ∨ txn < 0 ∨ 281474976710656 < txn
    · exact law_out h
    · exact law_in ⟨by omega, by omega, by omega, hy, he⟩
  obtain ⟨⟨tm, hp⟩, h1, h2⟩ := key
  simp only at h2
  subst h2
  exact XC_ret T.cantonlaw13_ShardDecides h1 rfl
theorem law_callable : Callable Tryz.prog 3 :=
  ⟨Tryz.f3, Tryz.func3, by have h : (Tryz.f3.name == "runtime.NumGoroutine") = false := by kernel_rfl
                           simpa using h, by have h : Tryz.f3.body.isSome = true := by kernel_rfl
                                             cases hb : Tryz.f3.body with
                                             | none => rw [hb] at h; cases h
                                             | some c => simp⟩
theorem fits_bools {rows : List (List FV)} (h : ∀ r ∈ rows, rowOk [.bool] r) : ∀ (i : Nat) r, rows[i]? = some r → ∃ b, r = [.bool b] := by
  intro i r hr
  have := h r (List.mem_of_getElem? hr)
  match r, this with
  | [x], this =>
    simp only [rowOk, and_true] at this
    cases x <;> simp [FT.ok] at this
    exact ⟨_, rfl⟩
theorem fits_bytes {rows : List (List FV)} (h : ∀ r ∈ rows, rowOk [.int .u8] r) : ∀ (i : Nat) r, rows[i]? = some r → ∃ n : Int, r = [.int .u8 n] ∧ 0 ≤ n ∧ n < 256 := by
  intro i r hr
  have := h r (List.mem_of_getElem? hr)
  match r, this with
  | [x], this =>
    simp only [rowOk, and_true] at this
    cases x <;> simp [FT.ok] at this
    obtain ⟨rfl, hw⟩ := this
    refine ⟨_, rfl, ?_⟩
    simp [Lit.wf, IntKind.min, IntKind.max, IntKind.signed, IntKind.bits] at hw
    omega
end Go.Ab
namespace Go.Proofs.YtgjconibaflaaaaGreatDoor
open Go Go.Ab Go.ChangeShapes Go.WideShapes Go.ChangeAt Go.RowKit
set_option linter.unusedVariables false
theorem own : ownKnob Tryz.prog.godebug = none := by kernel_rfl
theorem laidOut : laidOutB Tryz.prog = true := by kernel_rfl
theorem rowed : mapsRowed Tryz.prog = true := by kernel_rfl
theorem full : ((List.range Tryz.prog.types.size).all fun t => match Tryz.prog.underlying t with | some (.slice e) => decide (0 < Tryz.prog.cellsOf e) | _ => true) = true := by kernel_rfl
theorem flat2 : flat Tryz.prog 3 2 = some [.int .i64] := by kernel_rfl
theorem flat22 : flat Tryz.prog 3 22 = some [.sl [.bool]] := by kernel_rfl
theorem flat23 : flat Tryz.prog 3 23 = some [.sl [.int .u8]] := by kernel_rfl
set_option maxRecDepth 100000 in
/-- What the walk gives, for every argument. -/
theorem contract (H : Type) (enc : TypeId × Value → H) (W : World) (base : Nat) (args : Array Value) (ds gs : List (DataW H)) (before : List MemPlace)
    (hval : ∀ (j : Nat) t v, Tryz.f3.params[j]? = some t → args[j]? = some v → Value.okWide Tryz.prog W .any base t v)
    (hW : DataW.Whole enc Tryz.prog Tryz.f3.params.toList Rows.shardDecidesSpec.vars false W args.toList ds gs before) :
    Calls Tryz.prog 3 args W fun e W' => ∃ v, e = .returned v ∧ Rows.shardDecidesSpec.post enc Tryz.prog Tryz.f3 false true false false W args v W' := by
  have hW' := hW
  obtain ⟨p, q, hA0, hV, rfl, hfz, hnd⟩ := hW
  have hA : DataW.TrodAll enc Tryz.prog W 0 (fun _ => true) true Tryz.f3.params.toList args.toList ds p := hA0
  rw [Tryz.params3] at hA hval
  obtain ⟨v0, v1, v2, d0, d1, d2, p0, p1, p2, rfl, rfl, rfl, h0, h1, h2⟩ := trodAll_three hA
  obtain ⟨rfl, rfl⟩ := trodVars_none hV
  have hF : ∀ (b : Nat) (o : Obj), W.heap[b]? = some o → (fun b : Nat => W.heap[b]?) b = some o := fun _ _ h => h
  obtain ⟨x0, o0, r0⟩ := open_one (F := fun b : Nat => W.heap[b]?) (by kernel_rfl) (hval 0 2 v0 rfl rfl) h0 flat2 hF
  obtain ⟨x1, o1, r1⟩ := open_one (F := fun b : Nat => W.heap[b]?) (by kernel_rfl) (hval 1 22 v1 rfl rfl) h1 flat22 hF
  obtain ⟨x2, o2, r2⟩ := open_one (F := fun b : Nat => W.heap[b]?) (by kernel_rfl) (hval 2 23 v2 rfl rfl) h2 flat23 hF
  cases x0 <;> simp only [FT.ok] at o0 <;> try (exact o0.elim)
  rename_i k0 txn
  obtain ⟨rfl, _⟩ := o0
  cases x1 <;> simp only [FT.ok] at o1 <;> try (exact o1.elim)
  rename_i k1 ys
  obtain ⟨rfl, _, o1⟩ := o1
  cases x2 <;> simp only [FT.ok] at o2 <;> try (exact o2.elim)
  rename_i k2 es
  obtain ⟨rfl, _, o2⟩ := o2
  have hX := law_XC (txn := txn) (fits_bools o1) (fits_bytes o2)
  refine (law_calls T_sound law_callable hX (w := W) (us := #[v0, v1, v2]) (LRel.cons (.f r0) (LRel.cons (.f r1) (LRel.cons (.f r2) (LRel.nil _ _))))).mono fun e W' ⟨he, hB, hz⟩ => ?_
  subst he
  exact ⟨_, rfl, law_post laidOut rowed full (by kernel_rfl) (tb := 4) (by kernel_rfl) Tryz.underlying4 rfl hW' rfl hB hz⟩
end Go.Proofs.YtgjconibaflaaaaGreatDoor
