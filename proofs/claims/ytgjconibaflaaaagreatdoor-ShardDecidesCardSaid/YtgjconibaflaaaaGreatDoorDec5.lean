/- Dec5. -/
import Derived.Test.YtgjconibaflaaaaGreatDoorDec4
import Derived.Test.YtgjconibaflaaaaGreatDoorHead
namespace Go.Ab
open Go
set_option linter.unusedSimpArgs false
set_option linter.unusedVariables false
set_option maxRecDepth 20000
set_option maxHeartbeats 8000000
theorem head_call (h : Heap) : callA (XC T) N.cantonlaw13_head [] h = some (.f (.bool true), h) := callA_pure rfl head_ok rfl (fun _ => rfl)
theorem root_k : callN T 60 N.cantonlaw13_root [] [] = some (.ptr 0 0 0, hpD []) := by kernel_rfl
theorem root_call : callA (XC T) N.cantonlaw13_root [] [] = some (.ptr 0 0 0, hpD []) := callA_of [] [] [] rfl rfl rfl (XC_of root_k) rfl rfl
def rootF : List AV := [.f (.sl 5 [[.str ⟨#[47]⟩, .str ⟨#[]⟩, .int .i64 0, .int .i64 0, .int .i64 0]]), .f (.sl 2 [])]
theorem store_k0 : callN T 60 N.shard_Shard_Store [.ptr 0 0 0] (hpD []) = some (.agg rootF, hpD []) := by kernel_rfl
theorem store_k1 (txn ep : Int) (yes : Bool) : callN T 60 N.shard_Shard_Store [.ptr 0 0 0] (hpD (decE txn yes ep)) = some (.agg rootF, hpD (decE txn yes ep)) := by kernel_rfl
theorem store_call0 : callA (XC T) N.shard_Shard_Store [.ptr 0 0 0] (hpD []) = some (.agg rootF, hpD []) :=
  callA_of [0, 1, 2, 3, 4, 5] [.ptr 0 0 0] (hpD []) (by kernel_rfl) (by kernel_rfl) (by kernel_rfl) (XC_of store_k0) (by kernel_rfl) (by kernel_rfl)
theorem store_call1 (txn ep : Int) (yes : Bool) : callA (XC T) N.shard_Shard_Store [.ptr 0 0 0] (hpD (decE txn yes ep)) = some (.agg rootF, hpD (decE txn yes ep)) :=
  callA_of [0, 1, 2, 3, 4, 5] [.ptr 0 0 0] (hpD (decE txn yes ep)) (by kernel_rfl) (by kernel_rfl) (by kernel_rfl) (XC_of (store_k1 txn ep yes)) (by kernel_rfl) (by kernel_rfl)
theorem do_call0 {txn ep : Int} {yes : Bool} (h0 : 0 ≤ txn) (h1 : txn ≤ 281474976710656) (h2 : 0 ≤ ep) (h3 : ep ≤ 281474976710656) : callA (XC T) N.shard_Shard_Do [.ptr 0 0 0, .agg (cmdC txn yes ep)] (hpD []) = some (.agg (ansF yes ep), hpD (decE txn yes ep)) :=
  callA_of [0, 1, 2, 3, 4, 5] [.ptr 0 0 0, .agg (cmdC txn yes ep)] (hpD []) (by kernel_rfl) (by kernel_rfl) (by kernel_rfl) (do_new txn ep yes h0 h1 h2 h3) (by kernel_rfl) (by kernel_rfl)
theorem do_call1 {txn ep ep0 : Int} {yes yes0 : Bool} (h0 : 0 ≤ txn) (h1 : txn ≤ 281474976710656) (h2 : 0 ≤ ep) (h3 : ep ≤ 281474976710656) : callA (XC T) N.shard_Shard_Do [.ptr 0 0 0, .agg (cmdC txn yes ep)] (hpD (decE txn yes0 ep0)) = some (.agg (ansF yes0 ep0), hpD (decE txn yes0 ep0)) :=
  callA_of [0, 1, 2, 3, 4, 5] [.ptr 0 0 0, .agg (cmdC txn yes ep)] (hpD (decE txn yes0 ep0)) (by kernel_rfl) (by kernel_rfl) (by kernel_rfl) (do_old txn ep ep0 yes yes0 h0 h1 h2 h3) (by kernel_rfl) (by kernel_rfl)

/-! ### The law's loop -/
def lawB : AC := match B.cantonlaw13_ShardDecides with
  | .seq _ (.seq _ (.seq _ (.seq _ (.seq (.seq _ (.block _ (.loop _ _ b))) _)))) => b
  | _ => .skip
def lawS (txn : Int) (ys es : List (List FV)) (i : Nat) (d : List (List FV × AV)) (more : Heap) : St :=
  ⟨[(0, .f (.int .i64 txn)), (1, .f (.sl 1 ys)), (2, .f (.sl 1 es)), (7, .f (.bool true)), (8, .ptr 0 0 0), (9, .f (.int .i64 i))], hpD d ++ more⟩
theorem lawS_norm0 (txn : Int) (ys es : List (List FV)) (i : Nat) : norm 0 ((mats [] (lawS txn ys es i [] [])).keep [0, 1, 2, 7, 8, 9]) = lawS txn ys es i [] [] := by kernel_rfl
theorem lawS_norm1 (txn : Int) (ys es : List (List FV)) (i : Nat) (t ep : Int) (y y' : Bool) (f : Int) : norm 0 ((mats [] (lawS txn ys es i (decE t y ep) [some (.rows 10 [ansF y' f])])).keep [0, 1, 2, 7, 8, 9]) = lawS txn ys es i (decE t y ep) [] := by kernel_rfl
def ansV (yes : Bool) (ep : Int) : List FV := [.int .i64 0, .int .i64 0, .bool yes, .int .i64 ep, .sl 5 [], .sl 5 [], .sl 2 [], .sl 4 [], .sl 4 [], .sl 1 []]
theorem law_round (txn : Int) (ys es : List (List FV)) (i : Nat) (d d' : List (List FV × AV)) (y y0 : Bool) (e f0 : Int) (hi : i < 60)
    (hy : ys[i]? = some [.bool y]) (hy0 : ys[0]? = some [.bool y0]) (he : (i < es.length ∧ es[i]? = some [.int .u8 e] ∧ IntKind.i64.wrap e = e) ∨ (¬ i < es.length ∧ e = 0))
    (hf : (0 < es.length ∧ es[0]? = some [.int .u8 f0] ∧ IntKind.i64.wrap f0 = f0) ∨ (es.length = 0 ∧ f0 = 0))
    (hdo : callA (XC T) N.shard_Shard_Do [.ptr 0 0 0, .agg (cmdC txn y e)] (hpD d) = some (.agg (ansF y0 f0), hpD d')) :
    Xe T 0 lawB (lawS txn ys es i d []) = some (.normal, lawS txn ys es (i + 1) d' [some (.rows 10 [ansF y0 f0])]) := by
  have hil : i < ys.length := (List.getElem?_eq_some_iff.1 hy).1
  have c1 : (i : Int) < ys.length := by omega
  have c2 : 0 < ys.length := by omega
  have c4 := wrap_succ i (by omega)
  simp only [cmdC, hpD, ansF] at hdo
  rcases he with ⟨e1, e2, e3⟩ | ⟨e1, e2⟩
  · have c5 : (i : Int) < es.length := by omega
    rcases hf with ⟨f1, f2, f3⟩ | ⟨f1, f2⟩
    · have c7 : (0 : Int) < es.length := by omega
      simp only [lawB, lawS, B.cantonlaw13_ShardDecides, hpD, ansF, Xe_seq, Xe_region, Xe_cond, Xe_block, Xe_skip, Xe_exit, Xe_ret, Xe_goto, runR, runOps, stepO, wanted, opE, St.ev, look, St.put, St.keep, bin, binV, arith, cmpInt, eqOf, isNil, Heap.at, cellsAt, setCells, asInt, uncells, Blk.width, Blk.count, fill, AV.stored, AV.isCell, AV.cells, splice, storedAll, bound, found, keyV, kins, kin, findE, setE, samesL, FV.same, kk64, bft, btf, bff, btt, cast0, cast1, castL, toFs, toFss, AV.toF, mkRows, results, finish,
  norm, mats, live, reach, refsB, refsT, refsL, AV.refs, upto, renT, renL, AV.ren, pos, pos.go, pack, Blk.ren, renLL, Blk.refs, refsLL, refsE, renE, Xe_loop,
  AX.t.injEq, runLog, apart, footO, foot, clash, meets, has, idOf,
  List.map_cons, List.map_nil, List.length_cons, List.length_nil, List.getElem?_cons_zero, List.getElem?_cons_succ, List.getElem?_nil, List.all_cons, List.all_nil, List.any_cons, List.any_nil, List.cons_append, List.nil_append, List.append_nil, List.set_cons_zero, List.set_cons_succ, List.take_succ_cons, List.take_zero, List.take_nil, List.drop_zero, List.drop_succ_cons, List.drop_nil, List.getD_cons_zero, List.getD_cons_succ, List.getD_nil,
  Option.map_some, Option.map_none, Option.join_some, Option.join_none, Option.getD_some, Option.getD_none, Option.some.injEq, Option.isSome_some, Option.isSome_none,
  Nat.reduceEqDiff, Nat.reduceAdd, Nat.reduceSub, Nat.reduceMul, Nat.reduceLeDiff, Nat.reduceLT, Nat.reduceBEq, Nat.zero_le, Nat.le_refl, Nat.add_zero, Nat.zero_add, Nat.sub_zero, Int.reduceLT, Int.reduceLE, Int.reduceEq, Int.reduceToNat, Int.toNat_natCast, Int.natCast_nonneg,
  if_true, if_false, ite_true, ite_false, reduceIte, reduceCtorEq, decide_true, decide_false, Bool.and_true, Bool.true_and, Bool.and_false, Bool.false_and, Bool.or_true, Bool.true_or, Bool.or_false, Bool.false_or, Bool.not_true, Bool.not_false, Bool.false_eq_true, Bool.true_eq_false, beq_self_eq_true, beq_iff_eq, and_true, true_and, and_false, false_and, and_self, true_or, or_true, not_true_eq_false, not_false_eq_true, eq_self, ne_eq, ge_iff_le, gt_iff_lt, c1, c2, c4, c5, f1, c7, hil, e1, e2, e3, f2, f3, hy, hy0, hdo]
    · omega
  · subst e2
    have c5 : ¬ ((i : Int) < es.length) := by omega
    rcases hf with ⟨f1, f2, f3⟩ | ⟨f1, f2⟩
    · have c7 : (0 : Int) < es.length := by omega
      simp only [lawB, lawS, B.cantonlaw13_ShardDecides, hpD, ansF, Xe_seq, Xe_region, Xe_cond, Xe_block, Xe_skip, Xe_exit, Xe_ret, Xe_goto, runR, runOps, stepO, wanted, opE, St.ev, look, St.put, St.keep, bin, binV, arith, cmpInt, eqOf, isNil, Heap.at, cellsAt, setCells, asInt, uncells, Blk.width, Blk.count, fill, AV.stored, AV.isCell, AV.cells, splice, storedAll, bound, found, keyV, kins, kin, findE, setE, samesL, FV.same, kk64, bft, btf, bff, btt, cast0, cast1, castL, toFs, toFss, AV.toF, mkRows, results, finish,
  norm, mats, live, reach, refsB, refsT, refsL, AV.refs, upto, renT, renL, AV.ren, pos, pos.go, pack, Blk.ren, renLL, Blk.refs, refsLL, refsE, renE, Xe_loop,
  AX.t.injEq, runLog, apart, footO, foot, clash, meets, has, idOf,
  List.map_cons, List.map_nil, List.length_cons, List.length_nil, List.getElem?_cons_zero, List.getElem?_cons_succ, List.getElem?_nil, List.all_cons, List.all_nil, List.any_cons, List.any_nil, List.cons_append, List.nil_append, List.append_nil, List.set_cons_zero, List.set_cons_succ, List.take_succ_cons, List.take_zero, List.take_nil, List.drop_zero, List.drop_succ_cons, List.drop_nil, List.getD_cons_zero, List.getD_cons_succ, List.getD_nil,
  Option.map_some, Option.map_none, Option.join_some, Option.join_none, Option.getD_some, Option.getD_none, Option.some.injEq, Option.isSome_some, Option.isSome_none,
  Nat.reduceEqDiff, Nat.reduceAdd, Nat.reduceSub, Nat.reduceMul, Nat.reduceLeDiff, Nat.reduceLT, Nat.reduceBEq, Nat.zero_le, Nat.le_refl, Nat.add_zero, Nat.zero_add, Nat.sub_zero, Int.reduceLT, Int.reduceLE, Int.reduceEq, Int.reduceToNat, Int.toNat_natCast, Int.natCast_nonneg,
  if_true, if_false, ite_true, ite_false, reduceIte, reduceCtorEq, decide_true, decide_false, Bool.and_true, Bool.true_and, Bool.and_false, Bool.false_and, Bool.or_true, Bool.true_or, Bool.or_false, Bool.false_or, Bool.not_true, Bool.not_false, Bool.false_eq_true, Bool.true_eq_false, beq_self_eq_true, beq_iff_eq, and_true, true_and, and_false, false_and, and_self, true_or, or_true, not_true_eq_false, not_false_eq_true, eq_self, ne_eq, ge_iff_le, gt_iff_lt, c1, c2, c4, c5, f1, c7, hil, e1, f2, f3, hy, hy0, hdo]
    · subst f2
      have c7 : ¬ ((0 : Int) < es.length) := by omega
      have c8 : ¬ (0 < es.length) := by omega
      simp only [lawB, lawS, B.cantonlaw13_ShardDecides, hpD, ansF, Xe_seq, Xe_region, Xe_cond, Xe_block, Xe_skip, Xe_exit, Xe_ret, Xe_goto, runR, runOps, stepO, wanted, opE, St.ev, look, St.put, St.keep, bin, binV, arith, cmpInt, eqOf, isNil, Heap.at, cellsAt, setCells, asInt, uncells, Blk.width, Blk.count, fill, AV.stored, AV.isCell, AV.cells, splice, storedAll, bound, found, keyV, kins, kin, findE, setE, samesL, FV.same, kk64, bft, btf, bff, btt, cast0, cast1, castL, toFs, toFss, AV.toF, mkRows, results, finish,
  norm, mats, live, reach, refsB, refsT, refsL, AV.refs, upto, renT, renL, AV.ren, pos, pos.go, pack, Blk.ren, renLL, Blk.refs, refsLL, refsE, renE, Xe_loop,
  AX.t.injEq, runLog, apart, footO, foot, clash, meets, has, idOf,
  List.map_cons, List.map_nil, List.length_cons, List.length_nil, List.getElem?_cons_zero, List.getElem?_cons_succ, List.getElem?_nil, List.all_cons, List.all_nil, List.any_cons, List.any_nil, List.cons_append, List.nil_append, List.append_nil, List.set_cons_zero, List.set_cons_succ, List.take_succ_cons, List.take_zero, List.take_nil, List.drop_zero, List.drop_succ_cons, List.drop_nil, List.getD_cons_zero, List.getD_cons_succ, List.getD_nil,
  Option.map_some, Option.map_none, Option.join_some, Option.join_none, Option.getD_some, Option.getD_none, Option.some.injEq, Option.isSome_some, Option.isSome_none,
  Nat.reduceEqDiff, Nat.reduceAdd, Nat.reduceSub, Nat.reduceMul, Nat.reduceLeDiff, Nat.reduceLT, Nat.reduceBEq, Nat.zero_le, Nat.le_refl, Nat.add_zero, Nat.zero_add, Nat.sub_zero, Int.reduceLT, Int.reduceLE, Int.reduceEq, Int.reduceToNat, Int.toNat_natCast, Int.natCast_nonneg,
  if_true, if_false, ite_true, ite_false, reduceIte, reduceCtorEq, decide_true, decide_false, Bool.and_true, Bool.true_and, Bool.and_false, Bool.false_and, Bool.or_true, Bool.true_or, Bool.or_false, Bool.false_or, Bool.not_true, Bool.not_false, Bool.false_eq_true, Bool.true_eq_false, beq_self_eq_true, beq_iff_eq, and_true, true_and, and_false, false_and, and_self, true_or, or_true, not_true_eq_false, not_false_eq_true, eq_self, ne_eq, ge_iff_le, gt_iff_lt, c1, c2, c4, c5, c7, c8, hil, e1, hy, hy0, hdo]
theorem law_last (txn : Int) (ys es : List (List FV)) (d : List (List FV × AV)) : Xe T 0 lawB (lawS txn ys es ys.length d []) = some (.exit 0, ⟨[(0, .f (.int .i64 txn)), (1, .f (.sl 1 ys)), (2, .f (.sl 1 es)), (7, .f (.bool true)), (8, .ptr 0 0 0), (9, .f (.int .i64 ys.length)), (38, .f (.bool false))], hpD d⟩) := by
  have c1 : ¬ ((ys.length : Int) < ys.length) := by omega
  simp only [lawB, lawS, B.cantonlaw13_ShardDecides, hpD, Xe_seq, Xe_region, Xe_cond, Xe_block, Xe_skip, Xe_exit, Xe_ret, Xe_goto, runR, runOps, stepO, wanted, opE, St.ev, look, St.put, St.keep, bin, binV, arith, cmpInt, eqOf, isNil, Heap.at, cellsAt, setCells, asInt, uncells, Blk.width, Blk.count, fill, AV.stored, AV.isCell, AV.cells, splice, storedAll, bound, found, keyV, kins, kin, findE, setE, samesL, FV.same, kk64, bft, btf, bff, btt, cast0, cast1, castL, toFs, toFss, AV.toF, mkRows, results, finish,
  norm, mats, live, reach, refsB, refsT, refsL, AV.refs, upto, renT, renL, AV.ren, pos, pos.go, pack, Blk.ren, renLL, Blk.refs, refsLL, refsE, renE, Xe_loop,
  AX.t.injEq, runLog, apart, footO, foot, clash, meets, has, idOf,
  List.map_cons, List.map_nil, List.length_cons, List.length_nil, List.getElem?_cons_zero, List.getElem?_cons_succ, List.getElem?_nil, List.all_cons, List.all_nil, List.any_cons, List.any_nil, List.cons_append, List.nil_append, List.append_nil, List.set_cons_zero, List.set_cons_succ, List.take_succ_cons, List.take_zero, List.take_nil, List.drop_zero, List.drop_succ_cons, List.drop_nil, List.getD_cons_zero, List.getD_cons_succ, List.getD_nil,
  Option.map_some, Option.map_none, Option.join_some, Option.join_none, Option.getD_some, Option.getD_none, Option.some.injEq, Option.isSome_some, Option.isSome_none,
  Nat.reduceEqDiff, Nat.reduceAdd, Nat.reduceSub, Nat.reduceMul, Nat.reduceLeDiff, Nat.reduceLT, Nat.reduceBEq, Nat.zero_le, Nat.le_refl, Nat.add_zero, Nat.zero_add, Nat.sub_zero, Int.reduceLT, Int.reduceLE, Int.reduceEq, Int.reduceToNat, Int.toNat_natCast, Int.natCast_nonneg,
  if_true, if_false, ite_true, ite_false, reduceIte, reduceCtorEq, decide_true, decide_false, Bool.and_true, Bool.true_and, Bool.and_false, Bool.false_and, Bool.or_true, Bool.true_or, Bool.or_false, Bool.false_or, Bool.not_true, Bool.not_false, Bool.false_eq_true, Bool.true_eq_false, beq_self_eq_true, beq_iff_eq, and_true, true_and, and_false, false_and, and_self, true_or, or_true, not_true_eq_false, not_false_eq_true, eq_self, ne_eq, ge_iff_le, gt_iff_lt, c1]
/-- What is handed in. -/
structure Fits (txn : Int) (ys : List (List FV)) (es : List (List FV)) : Prop where
  t0 : 0 ≤ txn
  t1 : txn ≤ 281474976710656
  ny : ys.length ≤ 60
  y : ∀ (i : Nat) r, ys[i]? = some r → ∃ b, r = [.bool b]
  e : ∀ (i : Nat) r, es[i]? = some r → ∃ n : Int, r = [.int .u8 n] ∧ 0 ≤ n ∧ n < 256
theorem law_loop {txn : Int} {ys es : List (List FV)} (H : Fits txn ys es) (y0 : Bool) (f0 : Int) (hy0 : ys[0]? = some [.bool y0]) (hf : (0 < es.length ∧ es[0]? = some [.int .u8 f0] ∧ IntKind.i64.wrap f0 = f0) ∨ (es.length = 0 ∧ f0 = 0)) (hf0 : 0 ≤ f0 ∧ f0 < 256) :
    ∀ k i, i + k = ys.length → 0 < i → Xe T 0 (.loop [0, 1, 2, 7, 8, 9] [] lawB) (lawS txn ys es i (decE txn y0 f0) [some (.rows 10 [ansF y0 f0])]) =
      some (.exit 0, ⟨[(0, .f (.int .i64 txn)), (1, .f (.sl 1 ys)), (2, .f (.sl 1 es)), (7, .f (.bool true)), (8, .ptr 0 0 0), (9, .f (.int .i64 ys.length)), (38, .f (.bool false))], hpD (decE txn y0 f0)⟩)
  | 0, i, h, _ => by
    have : i = ys.length := by omega
    subst this
    rw [Xe_loop, lawS_norm1, law_last]
  | k + 1, i, h, hi0 => by
    have hi : i < ys.length := by omega
    obtain ⟨y, hy⟩ := H.y i ys[i] (by simp [hi])
    have hyi : ys[i]? = some [.bool y] := by rw [← hy]; simp [hi]
    have hny := H.ny
    rw [Xe_loop, lawS_norm1]
    by_cases he : i < es.length
    · obtain ⟨e, e1, e2, e3⟩ := H.e i es[i] (by simp [he])
      have hei : es[i]? = some [.int .u8 e] := by rw [← e1]; simp [he]
      rw [law_round txn ys es i (decE txn y0 f0) (decE txn y0 f0) y y0 e f0 (by omega) hyi hy0 (.inl ⟨he, hei, by rw [wrap_small e2 (by omega)]⟩) hf (do_call1 H.t0 H.t1 e2 (by omega))]
      exact law_loop H y0 f0 hy0 hf hf0 k (i + 1) (by omega) (by omega)
    · rw [law_round txn ys es i (decE txn y0 f0) (decE txn y0 f0) y y0 0 f0 (by omega) hyi hy0 (.inr ⟨he, rfl⟩) hf (do_call1 H.t0 H.t1 (by omega) (by omega))]
      exact law_loop H y0 f0 hy0 hf hf0 k (i + 1) (by omega) (by omega)
/-- The loop, whatever came in. -/
theorem law_all {txn : Int} {ys es : List (List FV)} (H : Fits txn ys es) : ∃ d, Xe T 0 (.loop [0, 1, 2, 7, 8, 9] [] lawB) (lawS txn ys es 0 [] []) =
      some (.exit 0, ⟨[(0, .f (.int .i64 txn)), (1, .f (.sl 1 ys)), (2, .f (.sl 1 es)), (7, .f (.bool true)), (8, .ptr 0 0 0), (9, .f (.int .i64 ys.length)), (38, .f (.bool false))], hpD d⟩) ∧
      callA (XC T) N.shard_Shard_Store [.ptr 0 0 0] (hpD d) = some (.agg rootF, hpD d) := by
  by_cases h0 : ys.length = 0
  · refine ⟨[], ?_, store_call0⟩
    have := law_last txn ys es []
    rw [Xe_loop, lawS_norm0]
    rw [h0] at this ⊢
    rw [this]
  · have h1 : 0 < ys.length := by omega
    obtain ⟨y0, hy⟩ := H.y 0 ys[0] (by simp [h1])
    have hy0 : ys[0]? = some [.bool y0] := by rw [← hy]; simp [h1]
    have hny := H.ny
    by_cases he : 0 < es.length
    · obtain ⟨f0, e1, e2, e3⟩ := H.e 0 es[0] (by simp [he])
      have hei : es[0]? = some [.int .u8 f0] := by rw [← e1]; simp [he]
      have hw : IntKind.i64.wrap f0 = f0 := by rw [wrap_small e2 (by omega)]
      refine ⟨decE txn y0 f0, ?_, store_call1 txn f0 y0⟩
      rw [Xe_loop, lawS_norm0, law_round txn ys es 0 [] (decE txn y0 f0) y0 y0 f0 f0 (by omega) hy0 hy0 (.inl ⟨he, hei, hw⟩) (.inl ⟨he, hei, hw⟩) (do_call0 H.t0 H.t1 e2 (by omega))]
      exact law_loop H y0 f0 hy0 (.inl ⟨he, hei, hw⟩) ⟨e2, e3⟩ (ys.length - 1) 1 (by omega) (by omega)
    · refine ⟨decE txn y0 0, ?_, store_call1 txn 0 y0⟩
      rw [Xe_loop, lawS_norm0, law_round txn ys es 0 [] (decE txn y0 0) y0 y0 0 0 (by omega) hy0 hy0 (.inr ⟨he, rfl⟩) (.inr ⟨by omega, rfl⟩) (do_call0 H.t0 H.t1 (by omega) (by omega))]
      exact law_loop H y0 0 hy0 (.inr ⟨by omega, rfl⟩) (by omega) (ys.length - 1) 1 (by omega) (by omega)
/-- The law's code ahead of the loop, and behind it. -/
theorem law_in {txn : Int} {ys es : List (List FV)} (H : Fits txn ys es) : ∃ s, Xe T 0 B.cantonlaw13_ShardDecides ⟨[(0, .f (.int .i64 txn)), (1, .f (.sl 1 ys)), (2, .f (.sl 1 es))], []⟩ = some (.ret, s) ∧ s.tm = [(6, .f (.bool true))] := by
  obtain ⟨d, h1, h2⟩ := law_all H
  have c1 : ¬ ((60 : Int) < ys.length) := by have := H.ny; omega
  have c2 : ¬ (txn < 0) := by have := H.t0; omega
  have c3 : ¬ (281474976710656 < txn) := by have := H.t1; omega
  have hb : B.cantonlaw13_ShardDecides = (match B.cantonlaw13_ShardDecides with
    | .seq a (.seq b (.seq c (.seq e (.seq (.seq f (.block n (.loop k m _))) z)))) => .seq a (.seq b (.seq c (.seq e (.seq (.seq f (.block n (.loop k m lawB))) z))))
    | x => x) := rfl
  refine ⟨⟨[(6, .f (.bool true))], hpD d⟩, ?_, rfl⟩
  unfold lawS at h1
  have hz : ((0 : Nat) : Int) = 0 := rfl
  rw [hz, List.append_nil] at h1
  rw [hb]
  simp only [B.cantonlaw13_ShardDecides, Xe_seq, Xe_region, Xe_cond, Xe_block, Xe_skip, Xe_exit, Xe_ret, Xe_goto, runR, runOps, stepO, wanted, opE, St.ev, look, St.put, St.keep, bin, binV, arith, cmpInt, eqOf, isNil, Heap.at, cellsAt, setCells, asInt, uncells, Blk.width, Blk.count, fill, AV.stored, AV.isCell, AV.cells, splice, storedAll, bound, found, keyV, kins, kin, findE, setE, samesL, FV.same, kk64, bft, btf, bff, btt, cast0, cast1, castL, toFs, toFss, AV.toF, mkRows, results, finish,
  norm, mats, live, reach, refsB, refsT, refsL, AV.refs, upto, renT, renL, AV.ren, pos, pos.go, pack, Blk.ren, renLL, Blk.refs, refsLL, refsE, renE, Xe_loop,
  AX.t.injEq, runLog, apart, footO, foot, clash, meets, has, idOf,
  List.map_cons, List.map_nil, List.length_cons, List.length_nil, List.getElem?_cons_zero, List.getElem?_cons_succ, List.getElem?_nil, List.all_cons, List.all_nil, List.any_cons, List.any_nil, List.cons_append, List.nil_append, List.append_nil, List.set_cons_zero, List.set_cons_succ, List.take_succ_cons, List.take_zero, List.take_nil, List.drop_zero, List.drop_succ_cons, List.drop_nil, List.getD_cons_zero, List.getD_cons_succ, List.getD_nil,
  Option.map_some, Option.map_none, Option.join_some, Option.join_none, Option.getD_some, Option.getD_none, Option.some.injEq, Option.isSome_some, Option.isSome_none,
  Nat.reduceEqDiff, Nat.reduceAdd, Nat.reduceSub, Nat.reduceMul, Nat.reduceLeDiff, Nat.reduceLT, Nat.reduceBEq, Nat.zero_le, Nat.le_refl, Nat.add_zero, Nat.zero_add, Nat.sub_zero, Int.reduceLT, Int.reduceLE, Int.reduceEq, Int.reduceToNat, Int.toNat_natCast, Int.natCast_nonneg,
  if_true, if_false, ite_true, ite_false, reduceIte, reduceCtorEq, decide_true, decide_false, Bool.and_true, Bool.true_and, Bool.and_false, Bool.false_and, Bool.or_true, Bool.true_or, Bool.or_false, Bool.false_or, Bool.not_true, Bool.not_false, Bool.false_eq_true, Bool.true_eq_false, beq_self_eq_true, beq_iff_eq, and_true, true_and, and_false, false_and, and_self, true_or, or_true, not_true_eq_false, not_false_eq_true, eq_self, ne_eq, ge_iff_le, gt_iff_lt, head_call, root_call, c1, c2, c3, h1, h2, rootF]
theorem law_out {txn : Int} {ys es : List (List FV)} (H : 60 < ys.length ∨ txn < 0 ∨ 281474976710656 < txn) : ∃ s, Xe T 0 B.cantonlaw13_ShardDecides ⟨[(0, .f (.int .i64 txn)), (1, .f (.sl 1 ys)), (2, .f (.sl 1 es))], []⟩ = some (.ret, s) ∧ s.tm = [(6, .f (.bool true))] := by
  refine ⟨⟨[(6, .f (.bool true))], hpD []⟩, ?_, rfl⟩
  by_cases c1 : (60 : Int) < ys.length
  · simp only [B.cantonlaw13_ShardDecides, Xe_seq, Xe_region, Xe_cond, Xe_block, Xe_skip, Xe_exit, Xe_ret, Xe_goto, runR, runOps, stepO, wanted, opE, St.ev, look, St.put, St.keep, bin, binV, arith, cmpInt, eqOf, isNil, Heap.at, cellsAt, setCells, asInt, uncells, Blk.width, Blk.count, fill, AV.stored, AV.isCell, AV.cells, splice, storedAll, bound, found, keyV, kins, kin, findE, setE, samesL, FV.same, kk64, bft, btf, bff, btt, cast0, cast1, castL, toFs, toFss, AV.toF, mkRows, results, finish,
  norm, mats, live, reach, refsB, refsT, refsL, AV.refs, upto, renT, renL, AV.ren, pos, pos.go, pack, Blk.ren, renLL, Blk.refs, refsLL, refsE, renE, Xe_loop,
  AX.t.injEq, runLog, apart, footO, foot, clash, meets, has, idOf,
  List.map_cons, List.map_nil, List.length_cons, List.length_nil, List.getElem?_cons_zero, List.getElem?_cons_succ, List.getElem?_nil, List.all_cons, List.all_nil, List.any_cons, List.any_nil, List.cons_append, List.nil_append, List.append_nil, List.set_cons_zero, List.set_cons_succ, List.take_succ_cons, List.take_zero, List.take_nil, List.drop_zero, List.drop_succ_cons, List.drop_nil, List.getD_cons_zero, List.getD_cons_succ, List.getD_nil,
  Option.map_some, Option.map_none, Option.join_some, Option.join_none, Option.getD_some, Option.getD_none, Option.some.injEq, Option.isSome_some, Option.isSome_none,
  Nat.reduceEqDiff, Nat.reduceAdd, Nat.reduceSub, Nat.reduceMul, Nat.reduceLeDiff, Nat.reduceLT, Nat.reduceBEq, Nat.zero_le, Nat.le_refl, Nat.add_zero, Nat.zero_add, Nat.sub_zero, Int.reduceLT, Int.reduceLE, Int.reduceEq, Int.reduceToNat, Int.toNat_natCast, Int.natCast_nonneg,
  if_true, if_false, ite_true, ite_false, reduceIte, reduceCtorEq, decide_true, decide_false, Bool.and_true, Bool.true_and, Bool.and_false, Bool.false_and, Bool.or_true, Bool.true_or, Bool.or_false, Bool.false_or, Bool.not_true, Bool.not_false, Bool.false_eq_true, Bool.true_eq_false, beq_self_eq_true, beq_iff_eq, and_true, true_and, and_false, false_and, and_self, true_or, or_true, not_true_eq_false, not_false_eq_true, eq_self, ne_eq, ge_iff_le, gt_iff_lt, head_call, root_call, c1]
  · by_cases c2 : txn < 0
    · simp only [B.cantonlaw13_ShardDecides, Xe_seq, Xe_region, Xe_cond, Xe_block, Xe_skip, Xe_exit, Xe_ret, Xe_goto, runR, runOps, stepO, wanted, opE, St.ev, look, St.put, St.keep, bin, binV, arith, cmpInt, eqOf, isNil, Heap.at, cellsAt, setCells, asInt, uncells, Blk.width, Blk.count, fill, AV.stored, AV.isCell, AV.cells, splice, storedAll, bound, found, keyV, kins, kin, findE, setE, samesL, FV.same, kk64, bft, btf, bff, btt, cast0, cast1, castL, toFs, toFss, AV.toF, mkRows, results, finish,
  norm, mats, live, reach, refsB, refsT, refsL, AV.refs, upto, renT, renL, AV.ren, pos, pos.go, pack, Blk.ren, renLL, Blk.refs, refsLL, refsE, renE, Xe_loop,
  AX.t.injEq, runLog, apart, footO, foot, clash, meets, has, idOf,
  List.map_cons, List.map_nil, List.length_cons, List.length_nil, List.getElem?_cons_zero, List.getElem?_cons_succ, List.getElem?_nil, List.all_cons, List.all_nil, List.any_cons, List.any_nil, List.cons_append, List.nil_append, List.append_nil, List.set_cons_zero, List.set_cons_succ, List.take_succ_cons, List.take_zero, List.take_nil, List.drop_zero, List.drop_succ_cons, List.drop_nil, List.getD_cons_zero, List.getD_cons_succ, List.getD_nil,
  Option.map_some, Option.map_none, Option.join_some, Option.join_none, Option.getD_some, Option.getD_none, Option.some.injEq, Option.isSome_some, Option.isSome_none,
  Nat.reduceEqDiff, Nat.reduceAdd, Nat.reduceSub, Nat.reduceMul, Nat.reduceLeDiff, Nat.reduceLT, Nat.reduceBEq, Nat.zero_le, Nat.le_refl, Nat.add_zero, Nat.zero_add, Nat.sub_zero, Int.reduceLT, Int.reduceLE, Int.reduceEq, Int.reduceToNat, Int.toNat_natCast, Int.natCast_nonneg,
  if_true, if_false, ite_true, ite_false, reduceIte, reduceCtorEq, decide_true, decide_false, Bool.and_true, Bool.true_and, Bool.and_false, Bool.false_and, Bool.or_true, Bool.true_or, Bool.or_false, Bool.false_or, Bool.not_true, Bool.not_false, Bool.false_eq_true, Bool.true_eq_false, beq_self_eq_true, beq_iff_eq, and_true, true_and, and_false, false_and, and_self, true_or, or_true, not_true_eq_false, not_false_eq_true, eq_self, ne_eq, ge_iff_le, gt_iff_lt, head_call, root_call, c1, c2]
    · have c3 : 281474976710656 < txn := by omega
      simp only [B.cantonlaw13_ShardDecides, Xe_seq, Xe_region, Xe_cond, Xe_block, Xe_skip, Xe_exit, Xe_ret, Xe_goto, runR, runOps, stepO, wanted, opE, St.ev, look, St.put, St.keep, bin, binV, arith, cmpInt, eqOf, isNil, Heap.at, cellsAt, setCells, asInt, uncells, Blk.width, Blk.count, fill, AV.stored, AV.isCell, AV.cells, splice, storedAll, bound, found, keyV, kins, kin, findE, setE, samesL, FV.same, kk64, bft, btf, bff, btt, cast0, cast1, castL, toFs, toFss, AV.toF, mkRows, results, finish,
  norm, mats, live, reach, refsB, refsT, refsL, AV.refs, upto, renT, renL, AV.ren, pos, pos.go, pack, Blk.ren, renLL, Blk.refs, refsLL, refsE, renE, Xe_loop,
  AX.t.injEq, runLog, apart, footO, foot, clash, meets, has, idOf,
  List.map_cons, List.map_nil, List.length_cons, List.length_nil, List.getElem?_cons_zero, List.getElem?_cons_succ, List.getElem?_nil, List.all_cons, List.all_nil, List.any_cons, List.any_nil, List.cons_append, List.nil_append, List.append_nil, List.set_cons_zero, List.set_cons_succ, List.take_succ_cons, List.take_zero, List.take_nil, List.drop_zero, List.drop_succ_cons, List.drop_nil, List.getD_cons_zero, List.getD_cons_succ, List.getD_nil,
  Option.map_some, Option.map_none, Option.join_some, Option.join_none, Option.getD_some, Option.getD_none, Option.some.injEq, Option.isSome_some, Option.isSome_none,
  Nat.reduceEqDiff, Nat.reduceAdd, Nat.reduceSub, Nat.reduceMul, Nat.reduceLeDiff, Nat.reduceLT, Nat.reduceBEq, Nat.zero_le, Nat.le_refl, Nat.add_zero, Nat.zero_add, Nat.sub_zero, Int.reduceLT, Int.reduceLE, Int.reduceEq, Int.reduceToNat, Int.toNat_natCast, Int.natCast_nonneg,
  if_true, if_false, ite_true, ite_false, reduceIte, reduceCtorEq, decide_true, decide_false, Bool.and_true, Bool.true_and, Bool.and_false, Bool.false_and, Bool.or_true, Bool.true_or, Bool.or_false, Bool.false_or, Bool.not_true, Bool.not_false, Bool.false_eq_true, Bool.true_eq_false, beq_self_eq_true, beq_iff_eq, and_true, true_and, and_false, false_and, and_self, true_or, or_true, not_true_eq_false, not_false_eq_true, eq_self, ne_eq, ge_iff_le, gt_iff_lt, head_call, root_call, c1, c2, c3]
end Go.Ab
