/- Dec3. -/
import Derived.Test.YtgjconibaflaaaaGreatDoorDec2
namespace Go.Ab
open Go
set_option linter.unusedSimpArgs false
set_option maxRecDepth 20000
set_option maxHeartbeats 4000000
def hpD (d : List (List FV × AV)) : Heap := [some (.rows 9 [[.vec 1, .sl0 2, .vec 2, .sl0 3, .sl0 4, .sl0 3, .mp 3, .mp 4, .mp 5]]), some (.frows 5 [[.str ⟨#[47]⟩, .str ⟨#[]⟩, .int .i64 0, .int .i64 0, .int .i64 0]]), some (.frows 3 [[.str ⟨#[47]⟩, .int .i64 1, .int .i64 1]]), some (.map []), some (.map []), some (.map d)]
def ansC (yes : Bool) (ep : Int) : List AV := [.f (.int .i64 0), .f (.int .i64 0), .f (.bool yes), .f (.int .i64 ep), .sl0 5, .sl0 5, .sl0 2, .sl0 4, .sl0 4, .sl0 1]
def ansF (yes : Bool) (ep : Int) : List AV := [.f (.int .i64 0), .f (.int .i64 0), .f (.bool yes), .f (.int .i64 ep), .f (.sl 5 []), .f (.sl 5 []), .f (.sl 2 []), .f (.sl 4 []), .f (.sl 4 []), .f (.sl 1 [])]
def decE (txn : Int) (yes : Bool) (ep : Int) : List (List FV × AV) := [([.int .i64 txn], .agg (ansC yes ep))]
theorem decide_new_e (txn ep : Int) (yes : Bool) : Xe T 6 B.shard_Shard_decide ⟨[(0, .ptr 0 0 0), (1, .agg (cmdC txn yes ep))], hpD []⟩ =
    some (.ret, ⟨[(4, .ptr 7 0 0)], hpD (decE txn yes ep) ++ [some (.rows 16 [cmdC txn yes ep]), some (.rows 10 [ansC yes ep]), some (.rows 10 [ansC false 0])]⟩) := by
  simp only [B.shard_Shard_decide, cmdC, ansC, hpD, decE, Xe_seq, Xe_region, Xe_cond, Xe_block, Xe_skip, Xe_exit, Xe_ret, Xe_goto, runR, runOps, stepO, wanted, opE, St.ev, look, St.put, St.keep, bin, binV, arith, cmpInt, eqOf, isNil, Heap.at, cellsAt, setCells, asInt, uncells, Blk.width, Blk.count, fill, AV.stored, AV.isCell, AV.cells, splice, storedAll, bound, found, keyV, kins, kin, findE, setE, samesL, FV.same, kk64, bft, btf, bff, btt, cast0, cast1, castL, toFs, toFss, AV.toF, mkRows, results, finish,
  norm, mats, live, reach, refsB, refsT, refsL, AV.refs, upto, renT, renL, AV.ren, pos, pos.go, pack, Blk.ren, renLL, Blk.refs, refsLL, refsE, renE, Xe_loop,
  AX.t.injEq, runLog, apart, footO, foot, clash, meets, has, idOf,
  List.map_cons, List.map_nil, List.length_cons, List.length_nil, List.getElem?_cons_zero, List.getElem?_cons_succ, List.getElem?_nil, List.all_cons, List.all_nil, List.any_cons, List.any_nil, List.cons_append, List.nil_append, List.append_nil, List.set_cons_zero, List.set_cons_succ, List.take_succ_cons, List.take_zero, List.take_nil, List.drop_zero, List.drop_succ_cons, List.drop_nil, List.getD_cons_zero, List.getD_cons_succ, List.getD_nil,
  Option.map_some, Option.map_none, Option.join_some, Option.join_none, Option.getD_some, Option.getD_none, Option.some.injEq, Option.isSome_some, Option.isSome_none,
  Nat.reduceEqDiff, Nat.reduceAdd, Nat.reduceSub, Nat.reduceMul, Nat.reduceLeDiff, Nat.reduceLT, Nat.reduceBEq, Nat.zero_le, Nat.le_refl, Nat.add_zero, Nat.zero_add, Nat.sub_zero, Int.reduceLT, Int.reduceLE, Int.reduceEq, Int.reduceToNat, Int.toNat_natCast, Int.natCast_nonneg,
  if_true, if_false, ite_true, ite_false, reduceIte, reduceCtorEq, decide_true, decide_false, Bool.and_true, Bool.true_and, Bool.and_false, Bool.false_and, Bool.or_true, Bool.true_or, Bool.or_false, Bool.false_or, Bool.not_true, Bool.not_false, Bool.false_eq_true, Bool.true_eq_false, beq_self_eq_true, beq_iff_eq, and_true, true_and, and_false, false_and, and_self, true_or, or_true, not_true_eq_false, not_false_eq_true, eq_self, ne_eq, ge_iff_le, gt_iff_lt]
theorem decide_old_e (txn ep ep0 : Int) (yes yes0 : Bool) : Xe T 6 B.shard_Shard_decide ⟨[(0, .ptr 0 0 0), (1, .agg (cmdC txn yes ep))], hpD (decE txn yes0 ep0)⟩ =
    some (.ret, ⟨[(4, .ptr 7 0 0)], hpD (decE txn yes0 ep0) ++ [some (.rows 16 [cmdC txn yes ep]), some (.rows 10 [ansC yes0 ep0]), some (.rows 10 [ansC yes0 ep0])]⟩) := by
  simp only [B.shard_Shard_decide, cmdC, ansC, hpD, decE, Xe_seq, Xe_region, Xe_cond, Xe_block, Xe_skip, Xe_exit, Xe_ret, Xe_goto, runR, runOps, stepO, wanted, opE, St.ev, look, St.put, St.keep, bin, binV, arith, cmpInt, eqOf, isNil, Heap.at, cellsAt, setCells, asInt, uncells, Blk.width, Blk.count, fill, AV.stored, AV.isCell, AV.cells, splice, storedAll, bound, found, keyV, kins, kin, findE, setE, samesL, FV.same, kk64, bft, btf, bff, btt, cast0, cast1, castL, toFs, toFss, AV.toF, mkRows, results, finish,
  norm, mats, live, reach, refsB, refsT, refsL, AV.refs, upto, renT, renL, AV.ren, pos, pos.go, pack, Blk.ren, renLL, Blk.refs, refsLL, refsE, renE, Xe_loop,
  AX.t.injEq, runLog, apart, footO, foot, clash, meets, has, idOf,
  List.map_cons, List.map_nil, List.length_cons, List.length_nil, List.getElem?_cons_zero, List.getElem?_cons_succ, List.getElem?_nil, List.all_cons, List.all_nil, List.any_cons, List.any_nil, List.cons_append, List.nil_append, List.append_nil, List.set_cons_zero, List.set_cons_succ, List.take_succ_cons, List.take_zero, List.take_nil, List.drop_zero, List.drop_succ_cons, List.drop_nil, List.getD_cons_zero, List.getD_cons_succ, List.getD_nil,
  Option.map_some, Option.map_none, Option.join_some, Option.join_none, Option.getD_some, Option.getD_none, Option.some.injEq, Option.isSome_some, Option.isSome_none,
  Nat.reduceEqDiff, Nat.reduceAdd, Nat.reduceSub, Nat.reduceMul, Nat.reduceLeDiff, Nat.reduceLT, Nat.reduceBEq, Nat.zero_le, Nat.le_refl, Nat.add_zero, Nat.zero_add, Nat.sub_zero, Int.reduceLT, Int.reduceLE, Int.reduceEq, Int.reduceToNat, Int.toNat_natCast, Int.natCast_nonneg,
  if_true, if_false, ite_true, ite_false, reduceIte, reduceCtorEq, decide_true, decide_false, Bool.and_true, Bool.true_and, Bool.and_false, Bool.false_and, Bool.or_true, Bool.true_or, Bool.or_false, Bool.false_or, Bool.not_true, Bool.not_false, Bool.false_eq_true, Bool.true_eq_false, beq_self_eq_true, beq_iff_eq, and_true, true_and, and_false, false_and, and_self, true_or, or_true, not_true_eq_false, not_false_eq_true, eq_self, ne_eq, ge_iff_le, gt_iff_lt]
theorem decide_new (txn ep : Int) (yes : Bool) : XC T N.shard_Shard_decide [.ptr 0 0 0, .agg (cmdC txn yes ep)] (hpD []) = some (.agg (ansF yes ep), hpD (decE txn yes ep)) :=
  XC_ret T.shard_Shard_decide (decide_new_e txn ep yes) (by kernel_rfl)
theorem decide_old (txn ep ep0 : Int) (yes yes0 : Bool) : XC T N.shard_Shard_decide [.ptr 0 0 0, .agg (cmdC txn yes ep)] (hpD (decE txn yes0 ep0)) = some (.agg (ansF yes0 ep0), hpD (decE txn yes0 ep0)) :=
  XC_ret T.shard_Shard_decide (decide_old_e txn ep ep0 yes yes0) (by kernel_rfl)
/-- What Do has: the shard, and three blocks of its own. -/
def doH (d : List (List FV × AV)) (c : List AV) (t : List AV) : Heap := hpD d ++ [some (.rows 16 [c]), some (.rows 10 [ansC false 0]), some (.rows 11 [t])]
theorem decide_call (txn ep : Int) (yes : Bool) (t : List AV) {d d' : List (List FV × AV)} {yes0 : Bool} {ep0 : Int} (hd : XC T N.shard_Shard_decide [.ptr 0 0 0, .agg (cmdC txn yes ep)] (hpD d) = some (.agg (ansF yes0 ep0), hpD d'))
    (he : d = [] ∨ ∃ a b c, d = decE a b c) (he' : ∃ a b c, d' = decE a b c) :
    callA (XC T) N.shard_Shard_decide [.ptr 0 0 0, .agg (cmdC txn yes ep)] (doH d (cmdC txn yes ep) t) = some (.agg (ansF yes0 ep0), doH d' (cmdC txn yes ep) t) := by
  obtain ⟨a', b', c', rfl⟩ := he'
  rcases he with rfl | ⟨a, b, c, rfl⟩
  · exact callA_of [0, 1, 2, 3, 4, 5] [.ptr 0 0 0, .agg (cmdC txn yes ep)] (hpD []) (by kernel_rfl) (by kernel_rfl) (by kernel_rfl) hd (by kernel_rfl) (by kernel_rfl)
  · exact callA_of [0, 1, 2, 3, 4, 5] [.ptr 0 0 0, .agg (cmdC txn yes ep)] (hpD (decE a b c)) (by kernel_rfl) (by kernel_rfl) (by kernel_rfl) hd (by kernel_rfl) (by kernel_rfl)
end Go.Ab
