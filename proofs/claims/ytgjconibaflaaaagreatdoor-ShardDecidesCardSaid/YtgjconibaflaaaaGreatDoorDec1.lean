/- Dec1. -/
import Derived.Test.YtgjconibaflaaaaGreatDoorCode
import Derived.Test.YtgjconibaflaaaaGreatDoorAbSym
namespace Go.Ab
open Go
set_option linter.unusedSimpArgs false
set_option maxRecDepth 20000
set_option maxHeartbeats 4000000
def nrow (n : Int) : List FV := [.int .i64 n]
def numB : AC := match B.command_number with | .seq _ (.seq (.seq _ (.block _ (.loop _ _ b))) _) => b | _ => .skip
def numS (rows : List (List FV)) (n i : Nat) : St := ⟨[(5, .vec 0), (6, .f (.int .i64 n)), (7, .f (.int .i64 i))], [some (.frows 1 rows)]⟩
theorem numS_norm (rows : List (List FV)) (n i : Nat) : norm 1 ((mats [] (numS rows n i)).keep [5, 6, 7]) = numS rows n i := by kernel_rfl
theorem number_round (rows : List (List FV)) (n : Nat) (x : Int) (i : Nat) (hx : rows[i]? = some (nrow x)) (h0 : 0 ≤ x) (h1 : x ≤ 281474976710656) (hl : rows.length = n) (hn : n < 1000) :
    Xe T 1 numB (numS rows n i) = some (.normal, numS rows n (i + 1)) := by
  have hi : i < n := by rw [← hl]; exact (List.getElem?_eq_some_iff.1 hx).1
  have c1 : (i : Int) < n := by omega
  have c2 : ¬ (x < 0) := by omega
  have c3 : ¬ (281474976710656 < x) := by omega
  have c4 := wrap_succ i (by omega)
  have c5 : i < rows.length := by omega
  unfold nrow at hx
  simp only [numB, numS, B.command_number, Xe_seq, Xe_region, Xe_cond, Xe_block, Xe_skip, Xe_exit, Xe_ret, Xe_goto, runR, runOps, stepO, wanted, opE, St.ev, look, St.put, St.keep, bin, binV, arith, cmpInt, eqOf, isNil, Heap.at, cellsAt, setCells, asInt, uncells, Blk.width, Blk.count, fill, AV.stored, AV.isCell, AV.cells, splice, storedAll, bound, found, keyV, kins, kin, findE, setE, samesL, FV.same, kk64, bft, btf, bff, btt, cast0, cast1, castL, toFs, toFss, AV.toF, mkRows, results, finish,
  norm, mats, live, reach, refsB, refsT, refsL, AV.refs, upto, renT, renL, AV.ren, pos, pos.go, pack, Blk.ren, renLL, Blk.refs, refsLL, refsE, renE, Xe_loop,
  AX.t.injEq, runLog, apart, footO, foot, clash, meets, has, idOf,
  List.map_cons, List.map_nil, List.length_cons, List.length_nil, List.getElem?_cons_zero, List.getElem?_cons_succ, List.getElem?_nil, List.all_cons, List.all_nil, List.any_cons, List.any_nil, List.cons_append, List.nil_append, List.append_nil, List.set_cons_zero, List.set_cons_succ, List.take_succ_cons, List.take_zero, List.take_nil, List.drop_zero, List.drop_succ_cons, List.drop_nil, List.getD_cons_zero, List.getD_cons_succ, List.getD_nil,
  Option.map_some, Option.map_none, Option.join_some, Option.join_none, Option.getD_some, Option.getD_none, Option.some.injEq, Option.isSome_some, Option.isSome_none,
  Nat.reduceEqDiff, Nat.reduceAdd, Nat.reduceSub, Nat.reduceMul, Nat.reduceLeDiff, Nat.reduceLT, Nat.reduceBEq, Nat.zero_le, Nat.le_refl, Nat.add_zero, Nat.zero_add, Nat.sub_zero, Int.reduceLT, Int.reduceLE, Int.reduceEq, Int.reduceToNat, Int.toNat_natCast, Int.natCast_nonneg,
  if_true, if_false, ite_true, ite_false, reduceIte, reduceCtorEq, decide_true, decide_false, Bool.and_true, Bool.true_and, Bool.and_false, Bool.false_and, Bool.or_true, Bool.true_or, Bool.or_false, Bool.false_or, Bool.not_true, Bool.not_false, Bool.false_eq_true, Bool.true_eq_false, beq_self_eq_true, beq_iff_eq, and_true, true_and, and_false, false_and, and_self, true_or, or_true, not_true_eq_false, not_false_eq_true, eq_self, ne_eq, ge_iff_le, gt_iff_lt, c1, c2, c3, c4, c5, hx]
theorem number_end (rows : List (List FV)) (n : Nat) : ∃ s, Xe T 1 numB (numS rows n n) = some (.exit 0, s) ∧ s.hp = [some (.frows 1 rows)] := by
  have c1 : ¬ ((n : Int) < n) := by omega
  refine ⟨⟨[(5, .vec 0), (6, .f (.int .i64 n)), (7, .f (.int .i64 n)), (8, .f (.bool false))], [some (.frows 1 rows)]⟩, ?_, rfl⟩
  simp only [numB, numS, B.command_number, Xe_seq, Xe_region, Xe_cond, Xe_block, Xe_skip, Xe_exit, Xe_ret, Xe_goto, runR, runOps, stepO, wanted, opE, St.ev, look, St.put, St.keep, bin, binV, arith, cmpInt, eqOf, isNil, Heap.at, cellsAt, setCells, asInt, uncells, Blk.width, Blk.count, fill, AV.stored, AV.isCell, AV.cells, splice, storedAll, bound, found, keyV, kins, kin, findE, setE, samesL, FV.same, kk64, bft, btf, bff, btt, cast0, cast1, castL, toFs, toFss, AV.toF, mkRows, results, finish,
  norm, mats, live, reach, refsB, refsT, refsL, AV.refs, upto, renT, renL, AV.ren, pos, pos.go, pack, Blk.ren, renLL, Blk.refs, refsLL, refsE, renE, Xe_loop,
  AX.t.injEq, runLog, apart, footO, foot, clash, meets, has, idOf,
  List.map_cons, List.map_nil, List.length_cons, List.length_nil, List.getElem?_cons_zero, List.getElem?_cons_succ, List.getElem?_nil, List.all_cons, List.all_nil, List.any_cons, List.any_nil, List.cons_append, List.nil_append, List.append_nil, List.set_cons_zero, List.set_cons_succ, List.take_succ_cons, List.take_zero, List.take_nil, List.drop_zero, List.drop_succ_cons, List.drop_nil, List.getD_cons_zero, List.getD_cons_succ, List.getD_nil,
  Option.map_some, Option.map_none, Option.join_some, Option.join_none, Option.getD_some, Option.getD_none, Option.some.injEq, Option.isSome_some, Option.isSome_none,
  Nat.reduceEqDiff, Nat.reduceAdd, Nat.reduceSub, Nat.reduceMul, Nat.reduceLeDiff, Nat.reduceLT, Nat.reduceBEq, Nat.zero_le, Nat.le_refl, Nat.add_zero, Nat.zero_add, Nat.sub_zero, Int.reduceLT, Int.reduceLE, Int.reduceEq, Int.reduceToNat, Int.toNat_natCast, Int.natCast_nonneg,
  if_true, if_false, ite_true, ite_false, reduceIte, reduceCtorEq, decide_true, decide_false, Bool.and_true, Bool.true_and, Bool.and_false, Bool.false_and, Bool.or_true, Bool.true_or, Bool.or_false, Bool.false_or, Bool.not_true, Bool.not_false, Bool.false_eq_true, Bool.true_eq_false, beq_self_eq_true, beq_iff_eq, and_true, true_and, and_false, false_and, and_self, true_or, or_true, not_true_eq_false, not_false_eq_true, eq_self, ne_eq, ge_iff_le, gt_iff_lt, c1]
theorem number_loop (l : List Int) (hl : l.length < 1000) (hr : ∀ x ∈ l, 0 ≤ x ∧ x ≤ 281474976710656) : ∀ k i, i + k = l.length → ∃ s, Xe T 1 (.loop [5, 6, 7] [] numB) (numS (l.map nrow) l.length i) = some (.exit 0, s) ∧ s.hp = [some (.frows 1 (l.map nrow))]
  | 0, i, h => by
    have : i = l.length := by omega
    subst this
    obtain ⟨s, h1, h2⟩ := number_end (l.map nrow) l.length
    refine ⟨s, ?_, h2⟩
    rw [Xe_loop, numS_norm, h1]
  | k + 1, i, h => by
    have hi : i < l.length := by omega
    obtain ⟨s, h1, h2⟩ := number_loop l hl hr k (i + 1) (by omega)
    refine ⟨s, ?_, h2⟩
    have hx := hr l[i] (List.getElem_mem hi)
    rw [Xe_loop, numS_norm, number_round (l.map nrow) l.length l[i] i (by simp [hi]) hx.1 hx.2 (by simp) hl]
    exact h1
theorem number_ok (l : List Int) (hl : l.length < 1000) (hr : ∀ x ∈ l, 0 ≤ x ∧ x ≤ 281474976710656) : XC T N.command_number [.vec 0] [some (.frows 1 (l.map nrow))] = some (.f (.bool true), [some (.frows 1 (l.map nrow))]) := by
  obtain ⟨s, h1, h2⟩ := number_loop l hl hr l.length 0 (by omega)
  have hb : B.command_number = .seq (.region [⟨some 2, .mv (.c (.f (.bool false))), none⟩] none [0]) (.seq (.seq (.region [⟨some 5, .mv (.t 0), none⟩, ⟨some 6, .len .sl (.t 5), none⟩, ⟨some 7, .mv (.c (.f (.int .i64 0))), none⟩] none [5, 6, 7]) (.block 0 (.loop [5, 6, 7] [] numB))) (.seq (.region [⟨some 2, .mv (.c (.f (.bool true))), none⟩] none [2]) .ret)) := rfl
  rw [XC_code T.command_number]
  obtain ⟨tm, hp⟩ := s
  simp only at h2
  subst h2
  unfold numS at h1
  have he : enter [AV.vec 0] [some (Blk.frows 1 (l.map nrow))] = ⟨[(0, .vec 0)], [some (.frows 1 (l.map nrow))]⟩ := rfl
  have hz : ((0 : Nat) : Int) = 0 := rfl
  rw [hz] at h1
  have hx : Xe T 1 B.command_number ⟨[(0, .vec 0)], [some (.frows 1 (l.map nrow))]⟩ = some (.ret, ⟨[(2, .f (.bool true))], [some (.frows 1 (l.map nrow))]⟩) := by
    rw [hb]
    simp only [Xe_seq, Xe_region, Xe_cond, Xe_block, Xe_skip, Xe_exit, Xe_ret, Xe_goto, runR, runOps, stepO, wanted, opE, St.ev, look, St.put, St.keep, bin, binV, arith, cmpInt, eqOf, isNil, Heap.at, cellsAt, setCells, asInt, uncells, Blk.width, Blk.count, fill, AV.stored, AV.isCell, AV.cells, splice, storedAll, bound, found, keyV, kins, kin, findE, setE, samesL, FV.same, kk64, bft, btf, bff, btt, cast0, cast1, castL, toFs, toFss, AV.toF, mkRows, results, finish,
  norm, mats, live, reach, refsB, refsT, refsL, AV.refs, upto, renT, renL, AV.ren, pos, pos.go, pack, Blk.ren, renLL, Blk.refs, refsLL, refsE, renE, Xe_loop,
  AX.t.injEq, runLog, apart, footO, foot, clash, meets, has, idOf,
  List.map_cons, List.map_nil, List.length_cons, List.length_nil, List.getElem?_cons_zero, List.getElem?_cons_succ, List.getElem?_nil, List.all_cons, List.all_nil, List.any_cons, List.any_nil, List.cons_append, List.nil_append, List.append_nil, List.set_cons_zero, List.set_cons_succ, List.take_succ_cons, List.take_zero, List.take_nil, List.drop_zero, List.drop_succ_cons, List.drop_nil, List.getD_cons_zero, List.getD_cons_succ, List.getD_nil,
  Option.map_some, Option.map_none, Option.join_some, Option.join_none, Option.getD_some, Option.getD_none, Option.some.injEq, Option.isSome_some, Option.isSome_none,
  Nat.reduceEqDiff, Nat.reduceAdd, Nat.reduceSub, Nat.reduceMul, Nat.reduceLeDiff, Nat.reduceLT, Nat.reduceBEq, Nat.zero_le, Nat.le_refl, Nat.add_zero, Nat.zero_add, Nat.sub_zero, Int.reduceLT, Int.reduceLE, Int.reduceEq, Int.reduceToNat, Int.toNat_natCast, Int.natCast_nonneg,
  if_true, if_false, ite_true, ite_false, reduceIte, reduceCtorEq, decide_true, decide_false, Bool.and_true, Bool.true_and, Bool.and_false, Bool.false_and, Bool.or_true, Bool.true_or, Bool.or_false, Bool.false_or, Bool.not_true, Bool.not_false, Bool.false_eq_true, Bool.true_eq_false, beq_self_eq_true, beq_iff_eq, and_true, true_and, and_false, false_and, and_self, true_or, or_true, not_true_eq_false, not_false_eq_true, eq_self, ne_eq, ge_iff_le, gt_iff_lt, List.length_map, h1]
  show (match Xe T 1 B.command_number (enter _ _) with | some r => finish C.command_number 1 r | none => none) = _
  rw [he, hx]
  kernel_rfl
end Go.Ab
