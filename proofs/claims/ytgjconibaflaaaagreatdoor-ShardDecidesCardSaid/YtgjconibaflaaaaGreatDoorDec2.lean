/- Dec2. -/
import Derived.Test.YtgjconibaflaaaaGreatDoorDec1
namespace Go.Ab
open Go
set_option linter.unusedSimpArgs false
set_option maxRecDepth 20000
set_option maxHeartbeats 4000000
def cmdC (txn : Int) (yes : Bool) (ep : Int) : List AV := [.f (.int .i64 4), .f (.int .i64 0), .f (.int .i64 txn), .f (.int .i64 0), .f (.bool yes), .sl0 8, .f (.str .empty), .f (.int .i64 ep), .f (.int .i64 0), .sl0 5, .sl0 2, .sl0 1, .f (.int .i64 0), .f (.int .i64 0), .f (.str .empty), .f (.bool false)]
theorem empty_k : callN T 60 N.command_empty [.f (.str .empty)] [] = some (.f (.bool true), []) := by kernel_rfl
theorem empty_ok (h : Heap) : callA (XC T) N.command_empty [.f (.str .empty)] h = some (.f (.bool true), h) := callA_pure rfl (XC_of empty_k) rfl (fun _ => rfl)
theorem pright_k : callN T 60 N.part_Right [.agg [.sl0 5, .sl0 2]] [] = some (.f (.bool true), []) := by kernel_rfl
theorem pright_ok (h : Heap) : callA (XC T) N.part_Right [.agg [.sl0 5, .sl0 2]] h = some (.f (.bool true), h) := callA_pure rfl (XC_of pright_k) rfl (fun _ => rfl)
theorem number_call (c : List AV) (l : List Int) (hl : l.length < 1000) (hr : ∀ x ∈ l, 0 ≤ x ∧ x ≤ 281474976710656) : callA (XC T) N.command_number [.vec 1] [some (.rows 16 [c]), some (.frows 1 (l.map nrow))] = some (.f (.bool true), [some (.rows 16 [c]), some (.frows 1 (l.map nrow))]) :=
  callA_of [1] [.vec 0] [some (.frows 1 (l.map nrow))] rfl rfl rfl (number_ok l hl hr) rfl rfl
theorem right_ok (txn ep : Int) (yes : Bool) (h0 : 0 ≤ txn) (h1 : txn ≤ 281474976710656) (h2 : 0 ≤ ep) (h3 : ep ≤ 281474976710656) :
    Xe T 0 B.command_Right ⟨[(0, .agg (cmdC txn yes ep))], []⟩ = some (.ret, ⟨[(2, .f (.bool true))], [some (.rows 16 [cmdC txn yes ep]), some (.frows 1 ([0, txn, 0, ep, 0, 0].map nrow))]⟩) := by
  have hn := number_call (cmdC txn yes ep) [0, txn, 0, ep, 0, 0] (by simp) (by
    intro x hx
    simp only [List.mem_cons, List.not_mem_nil, or_false] at hx
    rcases hx with rfl | rfl | rfl | rfl | rfl | rfl <;> omega)
  simp only [List.map_cons, List.map_nil, nrow, cmdC] at hn
  simp only [B.command_Right, cmdC, nrow, Xe_seq, Xe_region, Xe_cond, Xe_block, Xe_skip, Xe_exit, Xe_ret, Xe_goto, runR, runOps, stepO, wanted, opE, St.ev, look, St.put, St.keep, bin, binV, arith, cmpInt, eqOf, isNil, Heap.at, cellsAt, setCells, asInt, uncells, Blk.width, Blk.count, fill, AV.stored, AV.isCell, AV.cells, splice, storedAll, bound, found, keyV, kins, kin, findE, setE, samesL, FV.same, kk64, bft, btf, bff, btt, cast0, cast1, castL, toFs, toFss, AV.toF, mkRows, results, finish,
  norm, mats, live, reach, refsB, refsT, refsL, AV.refs, upto, renT, renL, AV.ren, pos, pos.go, pack, Blk.ren, renLL, Blk.refs, refsLL, refsE, renE, Xe_loop,
  AX.t.injEq, runLog, apart, footO, foot, clash, meets, has, idOf,
  List.map_cons, List.map_nil, List.length_cons, List.length_nil, List.getElem?_cons_zero, List.getElem?_cons_succ, List.getElem?_nil, List.all_cons, List.all_nil, List.any_cons, List.any_nil, List.cons_append, List.nil_append, List.append_nil, List.set_cons_zero, List.set_cons_succ, List.take_succ_cons, List.take_zero, List.take_nil, List.drop_zero, List.drop_succ_cons, List.drop_nil, List.getD_cons_zero, List.getD_cons_succ, List.getD_nil,
  Option.map_some, Option.map_none, Option.join_some, Option.join_none, Option.getD_some, Option.getD_none, Option.some.injEq, Option.isSome_some, Option.isSome_none,
  Nat.reduceEqDiff, Nat.reduceAdd, Nat.reduceSub, Nat.reduceMul, Nat.reduceLeDiff, Nat.reduceLT, Nat.reduceBEq, Nat.zero_le, Nat.le_refl, Nat.add_zero, Nat.zero_add, Nat.sub_zero, Int.reduceLT, Int.reduceLE, Int.reduceEq, Int.reduceToNat, Int.toNat_natCast, Int.natCast_nonneg,
  if_true, if_false, ite_true, ite_false, reduceIte, reduceCtorEq, decide_true, decide_false, Bool.and_true, Bool.true_and, Bool.and_false, Bool.false_and, Bool.or_true, Bool.true_or, Bool.or_false, Bool.false_or, Bool.not_true, Bool.not_false, Bool.false_eq_true, Bool.true_eq_false, beq_self_eq_true, beq_iff_eq, and_true, true_and, and_false, false_and, and_self, true_or, or_true, not_true_eq_false, not_false_eq_true, eq_self, ne_eq, ge_iff_le, gt_iff_lt, hn, empty_ok, pright_ok]
theorem right_XC (txn ep : Int) (yes : Bool) (h0 : 0 ≤ txn) (h1 : txn ≤ 281474976710656) (h2 : 0 ≤ ep) (h3 : ep ≤ 281474976710656) :
    XC T N.command_Right [.agg (cmdC txn yes ep)] [] = some (.f (.bool true), []) := by
  exact XC_ret T.command_Right (right_ok txn ep yes h0 h1 h2 h3) (by kernel_rfl)
theorem right_call (txn ep : Int) (yes : Bool) (h0 : 0 ≤ txn) (h1 : txn ≤ 281474976710656) (h2 : 0 ≤ ep) (h3 : ep ≤ 281474976710656) (h : Heap) :
    callA (XC T) N.command_Right [.agg (cmdC txn yes ep)] h = some (.f (.bool true), h) := callA_pure rfl (right_XC txn ep yes h0 h1 h2 h3) rfl (fun _ => rfl)
end Go.Ab
