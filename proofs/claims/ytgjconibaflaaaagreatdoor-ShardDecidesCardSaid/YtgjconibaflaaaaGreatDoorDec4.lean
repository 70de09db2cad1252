/- Dec4. -/
import Derived.Test.YtgjconibaflaaaaGreatDoorDec3
namespace Go.Ab
open Go
set_option linter.unusedSimpArgs false
set_option maxRecDepth 20000
set_option maxHeartbeats 4000000
def doT : List AV := [.f .nilf, .fn (.func N.shard_Shard_run) [] [], .fn (.func N.shard_Shard_prepare) [] [], .fn (.func N.shard_Shard_finish) [] [], .fn (.func N.shard_Shard_decide) [] [], .fn (.func N.shard_Shard_freeze) [] [], .fn (.func N.shard_Shard_install) [] [], .fn (.func N.shard_Shard_drop) [] [], .fn (.func N.shard_Shard_watch) [] [], .fn (.func N.shard_Shard_unwatch) [] [], .fn (.func N.shard_Shard_take) [] []]
theorem do_e (txn ep ep0 : Int) (yes yes0 : Bool) (h0 : 0 ≤ txn) (h1 : txn ≤ 281474976710656) (h2 : 0 ≤ ep) (h3 : ep ≤ 281474976710656) (d d' : List (List FV × AV))
    (hc : callA (XC T) N.shard_Shard_decide [.ptr 0 0 0, .agg (cmdC txn yes ep)] (doH d (cmdC txn yes ep) doT) = some (.agg (ansF yes0 ep0), doH d' (cmdC txn yes ep) doT)) :
    Xe T 6 B.shard_Shard_Do ⟨[(0, .ptr 0 0 0), (1, .agg (cmdC txn yes ep))], hpD d⟩ = some (.ret, ⟨[(4, .ptr 7 0 0)], hpD d' ++ [some (.rows 16 [cmdC txn yes ep]), some (.rows 10 [ansF yes0 ep0]), some (.rows 11 [doT])]⟩) := by
  have hr := fun h => right_call txn ep yes h0 h1 h2 h3 h
  simp only [doH, cmdC, hpD, ansF, ansC, doT, List.cons_append, List.nil_append] at hc hr
  simp only [B.shard_Shard_Do, cmdC, hpD, ansF, doT, Xe_seq, Xe_region, Xe_cond, Xe_block, Xe_skip, Xe_exit, Xe_ret, Xe_goto, runR, runOps, stepO, wanted, opE, St.ev, look, St.put, St.keep, bin, binV, arith, cmpInt, eqOf, isNil, Heap.at, cellsAt, setCells, asInt, uncells, Blk.width, Blk.count, fill, AV.stored, AV.isCell, AV.cells, splice, storedAll, bound, found, keyV, kins, kin, findE, setE, samesL, FV.same, kk64, bft, btf, bff, btt, cast0, cast1, castL, toFs, toFss, AV.toF, mkRows, results, finish,
  norm, mats, live, reach, refsB, refsT, refsL, AV.refs, upto, renT, renL, AV.ren, pos, pos.go, pack, Blk.ren, renLL, Blk.refs, refsLL, refsE, renE, Xe_loop,
  AX.t.injEq, runLog, apart, footO, foot, clash, meets, has, idOf,
  List.map_cons, List.map_nil, List.length_cons, List.length_nil, List.getElem?_cons_zero, List.getElem?_cons_succ, List.getElem?_nil, List.all_cons, List.all_nil, List.any_cons, List.any_nil, List.cons_append, List.nil_append, List.append_nil, List.set_cons_zero, List.set_cons_succ, List.take_succ_cons, List.take_zero, List.take_nil, List.drop_zero, List.drop_succ_cons, List.drop_nil, List.getD_cons_zero, List.getD_cons_succ, List.getD_nil,
  Option.map_some, Option.map_none, Option.join_some, Option.join_none, Option.getD_some, Option.getD_none, Option.some.injEq, Option.isSome_some, Option.isSome_none,
  Nat.reduceEqDiff, Nat.reduceAdd, Nat.reduceSub, Nat.reduceMul, Nat.reduceLeDiff, Nat.reduceLT, Nat.reduceBEq, Nat.zero_le, Nat.le_refl, Nat.add_zero, Nat.zero_add, Nat.sub_zero, Int.reduceLT, Int.reduceLE, Int.reduceEq, Int.reduceToNat, Int.toNat_natCast, Int.natCast_nonneg,
  if_true, if_false, ite_true, ite_false, reduceIte, reduceCtorEq, decide_true, decide_false, Bool.and_true, Bool.true_and, Bool.and_false, Bool.false_and, Bool.or_true, Bool.true_or, Bool.or_false, Bool.false_or, Bool.not_true, Bool.not_false, Bool.false_eq_true, Bool.true_eq_false, beq_self_eq_true, beq_iff_eq, and_true, true_and, and_false, false_and, and_self, true_or, or_true, not_true_eq_false, not_false_eq_true, eq_self, ne_eq, ge_iff_le, gt_iff_lt, hr, hc]
theorem do_new (txn ep : Int) (yes : Bool) (h0 : 0 ≤ txn) (h1 : txn ≤ 281474976710656) (h2 : 0 ≤ ep) (h3 : ep ≤ 281474976710656) : XC T N.shard_Shard_Do [.ptr 0 0 0, .agg (cmdC txn yes ep)] (hpD []) = some (.agg (ansF yes ep), hpD (decE txn yes ep)) :=
  XC_ret T.shard_Shard_Do (do_e txn ep ep yes yes h0 h1 h2 h3 _ _ (decide_call txn ep yes doT (decide_new txn ep yes) (.inl rfl) ⟨_, _, _, rfl⟩)) (by kernel_rfl)
theorem do_old (txn ep ep0 : Int) (yes yes0 : Bool) (h0 : 0 ≤ txn) (h1 : txn ≤ 281474976710656) (h2 : 0 ≤ ep) (h3 : ep ≤ 281474976710656) : XC T N.shard_Shard_Do [.ptr 0 0 0, .agg (cmdC txn yes ep)] (hpD (decE txn yes0 ep0)) = some (.agg (ansF yes0 ep0), hpD (decE txn yes0 ep0)) :=
  XC_ret T.shard_Shard_Do (do_e txn ep ep0 yes yes0 h0 h1 h2 h3 _ _ (decide_call txn ep yes doT (decide_old txn ep ep0 yes yes0) (.inr ⟨_, _, _, rfl⟩) ⟨_, _, _, rfl⟩)) (by kernel_rfl)
end Go.Ab
