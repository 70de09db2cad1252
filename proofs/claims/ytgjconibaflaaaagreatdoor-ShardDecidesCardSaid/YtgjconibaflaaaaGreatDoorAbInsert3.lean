/- slices.Insert at one element: proved. -/
import Derived.Test.YtgjconibaflaaaaGreatDoorAbInsert2
namespace Go.Ab
open Go
set_option linter.unusedVariables false
set_option linter.unusedSimpArgs false
set_option maxRecDepth 10000
section
variable {P : Program} {X : CallSem} {m : Nat} {h : Heap} {id idv j n k bytes : Nat} {b xs : Blk}
open Ins
theorem i0 (x y z : AV) (k : Nat) : exec X m 5 (I0 k) (enter [x, y, z] h) = some (.normal, ⟨[(0, x), (1, y), (2, z)], h⟩) := by
  simp [I0, Ins.o, exec, runR, runOps, stepO, wanted, opE, St.ev, look, St.put, St.keep, enter]
theorem i1 (z : AV) (hat : h.at id = some b) (hw : b.width = some k) (hk : 0 < k) (hj : j ≤ b.count) :
    exec X m 5 (I1 k) ⟨[(0, .vec id), (1, .f (.int .i64 j)), (2, z)], h⟩ = some (.normal, ⟨[(0, .vec id), (1, .f (.int .i64 j)), (2, z)], h⟩) := by
  have hk0 : ¬ k = 0 := by omega
  simp [I1, Ins.o, exec, runR, runOps, stepO, wanted, opE, St.ev, look, St.put, St.keep, bound, asInt, hat, hw, hk0, hj]
theorem i1s (z : AV) (hk : 0 < k) : exec X m 5 (I1 k) ⟨[(0, .sl0 k), (1, .f (.int .i64 0)), (2, z)], h⟩ = some (.normal, ⟨[(0, .sl0 k), (1, .f (.int .i64 0)), (2, z)], h⟩) := by
  have hk0 : ¬ k = 0 := by omega
  simp [I1, Ins.o, exec, runR, runOps, stepO, wanted, opE, St.ev, look, St.put, St.keep, bound, asInt, hk0]
theorem i2 (x y : AV) (hv : h.at idv = some xs) (hx : xs.width = some k) (h1 : xs.count = 1) :
    exec X m 5 I2 ⟨[(0, x), (1, y), (2, .vec idv)], h⟩ = some (.normal, ⟨[(0, x), (1, y), (2, .vec idv), (7, .f (.int .i64 1))], h⟩) := by
  cases xs <;> first | (cases hx; done) | skip
  all_goals
    simp only [Blk.count] at h1
    simp [I2, Ins.o, exec, runR, runOps, stepO, wanted, opE, St.ev, look, St.put, St.keep, hv, h1]
theorem i3 (x y z : AV) : exec X m 5 I3 ⟨[(0, x), (1, y), (2, z), (7, .f (.int .i64 1))], h⟩ = some (.normal, ⟨[(0, x), (1, y), (2, z), (7, .f (.int .i64 1)), (16, .f (.bool false))], h⟩) := by
  simp [I3, Ins.o, exec, runR, runOps, stepO, wanted, opE, St.ev, look, St.put, St.keep, bin, binV, arith, cmpInt]
theorem i5 (y z q : AV) (hat : h.at id = some b) (hw : b.width = some k) :
    exec X m 5 I5 ⟨[(0, .vec id), (1, y), (2, z), (7, q), (16, .f (.bool false))], h⟩ = some (.normal, ⟨[(0, .vec id), (1, y), (2, z), (7, q), (8, .f (.int .i64 b.count))], h⟩) := by
  cases b <;> first | (cases hw; done) | skip
  all_goals simp [I5, Ins.o, exec, runR, runOps, stepO, wanted, opE, St.ev, look, St.put, St.keep, hat, Blk.count]
theorem i5s (y z q : AV) : exec X m 5 I5 ⟨[(0, .sl0 k), (1, y), (2, z), (7, q), (16, .f (.bool false))], h⟩ = some (.normal, ⟨[(0, .sl0 k), (1, y), (2, z), (7, q), (8, .f (.int .i64 0))], h⟩) := by
  simp [I5, Ins.o, exec, runR, runOps, stepO, wanted, opE, St.ev, look, St.put, St.keep]
theorem i6n (q : AV) (hj : j < n) : exec X m 5 (I6 k bytes) ⟨[(0, .vec id), (1, .f (.int .i64 j)), (2, .vec idv), (7, q), (8, .f (.int .i64 n))], h⟩ = some (.normal, ⟨[(0, .vec id), (1, .f (.int .i64 j)), (2, .vec idv), (7, q), (8, .f (.int .i64 n)), (22, .f (.bool false))], h⟩) := by
  have hne : ¬ ((j : Int) = (n : Int)) := by omega
  simp [I6, Ins.o, exec, runR, runOps, stepO, wanted, opE, St.ev, look, St.put, St.keep, bin, binV, arith, cmpInt, hne]
theorem i6e (q : AV) (hat : h.at id = some b) (hv : h.at idv = some xs) (hw : b.width = some k) (hx : xs.width = some k) (hxw : xs.whole = true) (h1 : xs.count = 1) (hby : bytes ≤ 1024) (hlim : b.count < lim) {b' : Blk} (hjn : Blk.join b xs = some b') :
    exec X m 5 (I6 k bytes) ⟨[(0, .vec id), (1, .f (.int .i64 b.count)), (2, .vec idv), (7, q), (8, .f (.int .i64 b.count))], h⟩ = some (.ret, ⟨[(6, .vec h.length)], h.set id none ++ [some b']⟩) := by
  have hc := cont_vec hv hx
  have hle : b.count + 1 ≤ lim := hlim
  simp [I6, Ins.o, exec, runR, runOps, stepO, wanted, opE, St.ev, look, St.put, St.keep, bin, binV, arith, cmpInt, hat, hc, hxw, hx, h1, hby, hle, hjn]
theorem i6s (q : AV) (hv : h.at idv = some xs) (hx : xs.width = some k) (hxw : xs.whole = true) (h1 : xs.count = 1) (hby : bytes ≤ 1024) {b' : Blk} (hjn : Blk.join (.frows k []) xs = some b') :
    exec X m 5 (I6 k bytes) ⟨[(0, .sl0 k), (1, .f (.int .i64 0)), (2, .vec idv), (7, q), (8, .f (.int .i64 0))], h⟩ = some (.ret, ⟨[(6, .vec h.length)], h ++ [some b']⟩) := by
  have hc := cont_vec hv hx
  have hle : 1 ≤ lim := by decide
  simp [I6, Ins.o, exec, runR, runOps, stepO, wanted, opE, St.ev, look, St.put, St.keep, bin, binV, arith, cmpInt, hc, hxw, hx, h1, hby, hle, hjn]
theorem l8 (hn : n < lim) : runOps X L8 ⟨[(0, .vec id), (1, .f (.int .i64 j)), (2, .vec idv), (7, .f (.int .i64 1)), (8, .f (.int .i64 n)), (22, .f (.bool false))], h⟩ =
    some ⟨[(29, .vec id), (28, .f (.int .i64 (n + 1 : Nat))), (27, .f (.int .i64 1)), (26, .f (.int .i64 n)), (0, .vec id), (1, .f (.int .i64 j)), (2, .vec idv), (7, .f (.int .i64 1)), (8, .f (.int .i64 n)), (22, .f (.bool false))], h⟩ := by
  have hl : lim = 2 ^ 36 := rfl
  have hwr : IntKind.i64.wrap ((n : Int) + 1) = (n : Int) + 1 := wrap64 (by omega) (by omega)
  simp [L8, Ins.o, runOps, stepO, wanted, opE, St.ev, look, St.put, bin, binV, arith, hwr]

theorem l9 {tm : List (Nat × AV)} (h0 : look 0 tm = .vec id) (h1 : look 1 tm = .f (.int .i64 j)) (h7 : look 7 tm = .f (.int .i64 1)) (h8 : look 8 tm = .f (.int .i64 n)) (hat : h.at id = some b) (hw : b.width = some k) (hcnt : b.count = n) (hk : 0 < k) (hj : j ≤ n) (hn : n < lim) :
    runOps X (L9 k) ⟨tm, h⟩ = some ⟨(39, .f (.int .i64 (n + 1 - j : Nat))) :: (38, .f (.int .i64 j)) :: (37, .f (.int .i64 (n + 1 : Nat))) :: (36, .f (.int .i64 1)) :: (35, .f (.int .i64 n)) :: (34, .sub id 0 j) :: (33, .f (.int .i64 j)) :: (32, .vec id) :: tm, h⟩ := by
  have hl : lim = 2 ^ 36 := rfl
  have hk0 : ¬ k = 0 := by omega
  have hwr : IntKind.i64.wrap ((n : Int) + 1) = (n : Int) + 1 := wrap64 (by omega) (by omega)
  have hwr2 : IntKind.i64.wrap ((n : Int) + 1 - j) = ((n + 1 - j : Nat) : Int) := by rw [wrap64 (by omega) (by omega)]; omega
  simp [L9, Ins.o, runOps, stepO, wanted, opE, St.ev, look, St.put, bin, binV, arith, hwr, hwr2, h0, h1, h7, h8, bound, asInt, hk0, hat, hw, hcnt, hj]
theorem l13 {tm : List (Nat × AV)} (h0 : look 0 tm = .vec id) (h7 : look 7 tm = .f (.int .i64 1)) (h8 : look 8 tm = .f (.int .i64 n)) (hn : n < lim) :
    runOps X L13 ⟨tm, h⟩ = some ⟨(59, .f (.int .i64 (n + 1 : Nat))) :: (58, .f (.int .i64 1)) :: (57, .f (.int .i64 n)) :: (56, .vec id) :: tm, h⟩ := by
  have hl : lim = 2 ^ 36 := rfl
  have hwr : IntKind.i64.wrap ((n : Int) + 1) = (n : Int) + 1 := wrap64 (by omega) (by omega)
  simp [L13, Ins.o, runOps, stepO, wanted, opE, St.ev, look, St.put, bin, binV, arith, hwr, h0, h7, h8]
theorem take_all {xs : Blk} {k : Nat} (hx : xs.width = some k) {n : Nat} (h : xs.count ≤ n) : xs.take n = xs := by
  cases xs <;> first | (cases hx; done) | skip
  all_goals
    simp only [Blk.count] at h
    simp [Blk.take, List.take_of_length_le h]
theorem part_count {b : Blk} {k : Nat} (hw : b.width = some k) (o n : Nat) : ((b.drop o).take n).count = min n (b.count - o) := by
  cases b <;> first | (cases hw; done) | skip
  all_goals simp [Blk.drop, Blk.take, Blk.count]
theorem part_width {b : Blk} {k : Nat} (hw : b.width = some k) (o n : Nat) : ((b.drop o).take n).width = some k := by
  rw [(take_ofB _ _).2, (drop_ofB _ _).2, hw]
theorem cR (k : Nat) (R : List (List AV)) : (Blk.rows k R).count = R.length := rfl
theorem wR (k : Nat) (R : List (List AV)) : (Blk.rows k R).width = some k := rfl
theorem tR' (k n : Nat) (R : List (List AV)) : (Blk.rows k R).take n = .rows k (R.take n) := rfl
theorem whR (k : Nat) (R : List (List AV)) : (Blk.rows k R).whole = R.all fun r => r.all AV.isCell := rfl
theorem i10 {tm : List (Nat × AV)} {hl : Nat} {R : List (List AV)} (h9 : look 9 tm = .vec hl) (h0 : look 0 tm = .vec id) (h1 : look 1 tm = .f (.int .i64 j)) (h2 : look 2 tm = .vec idv) (h7 : look 7 tm = .f (.int .i64 1))
    (hR : h.at hl = some (.rows k R)) (hat : h.at id = some b) (hv : h.at idv = some xs) (hne : id ≠ hl) (hw : b.width = some k) (hbw : b.whole = true) (hx : xs.width = some k) (hxw : xs.whole = true) (hx1 : xs.count = 1) (hcnt : b.count = n) (hRl : R.length = n + 1) (hk : 0 < k) (hj : j < n) (hn : n < lim) :
    exec X m 8 (I10 k) ⟨tm, h⟩ = some (.ret, ⟨[(6, .vec hl)], h.set hl (some (.rows k (splice (splice R j (ofB xs)) (j + 1) ((ofB b).drop j))))⟩) := by
  have hlm : lim = 2 ^ 36 := rfl
  have hk0 : ¬ k = 0 := by omega
  have hlt := Heap.at_lt hR
  have q1 : ∀ B, Heap.at (h.set hl (some B)) hl = some B := fun B => by rw [Heap.at_set, if_pos ⟨rfl, hlt⟩]
  have q2 : ∀ B, Heap.at (h.set hl (some B)) id = some b := fun B => by rw [Heap.at_set, if_neg (fun e => hne e.1)]; exact hat
  have hwr : IntKind.i64.wrap ((j : Int) + 1) = (j : Int) + 1 := wrap64 (by omega) (by omega)
  have hcx := cont_vec hv hx
  have hcb : ∀ B, cont (h.set hl (some B)) (.sub id j (n - j)) = some ((b.drop j).take (n - j)) := fun B => cont_sub (q2 B) hw
  have m1 : Nat.min 1 (n + 1 - j) = 1 := by simp only [Nat.min_def]; split <;> omega
  have m2 : Nat.min (n - j) (n - j) = n - j := by simp
  have hpc : ((b.drop j).take (n - j)).count = n - j := by rw [part_count hw, hcnt]; omega
  have hxt : xs.take 1 = xs := take_all hx (by omega)
  have hpt : ((b.drop j).take (n - j)).take (n - j) = (b.drop j).take (n - j) := take_all (part_width hw _ _) (by omega)
  have hpw := whole_part hbw j (n - j)
  have hxl : (ofB xs).length = 1 := by rw [ofB_count hx, hx1]
  have o1 : Blk.over (.rows k R) j xs = some (.rows k (splice R j (ofB xs))) := over_rows hx (by omega)
  have hs1 : (splice R j (ofB xs)).length = n + 1 := by simp [splice, hxl, hRl]; omega
  have hpo : ofB ((b.drop j).take (n - j)) = (ofB b).drop j := by
    rw [(take_ofB _ _).1, (drop_ofB _ _).1]
    exact List.take_of_length_le (by rw [List.length_drop, ofB_count hw]; omega)
  have o2 : Blk.over (.rows k (splice R j (ofB xs))) (j + 1) ((b.drop j).take (n - j)) = some (.rows k (splice (splice R j (ofB xs)) (j + 1) ((ofB b).drop j))) := by
    rw [over_rows (part_width hw _ _) (by rw [hpo, hs1, List.length_drop, ofB_count hw]; omega), hpo]
  have c1 : j ≤ n + 1 := by omega
  have c2 : (j : Int) + 1 ≤ n + 1 := by omega
  have c3 : ((j : Int) + 1).toNat = j + 1 := by omega
  have c4 : (0 : Int) ≤ (j : Int) + 1 := by omega
  have c5 : j + (n + 1 - j) = n + 1 := by omega
  have c6 : j + 1 + (n - j) = n + 1 := by omega
  have c7 : n + 1 - (j + 1) = n - j := by omega
  have c8 : j ≤ n := by omega
  simp [I10, Ins.o, exec, runR, runOps, runLog, apart, stepO, wanted, opE, St.ev, look, St.put, St.keep, bin, binV, arith, bound, asInt, h9, h0, h1, h2, h7, hR, hat, q1, q2, hcx, hcb, m1, m2, hpc, hxt, hpt, hpw, hxw, hx1, o1, o2, hwr, hk0, hw, hcnt, hRl, hs1, wR, cR, c1, c2, c3, c4, c5, c6, c7, c8]
theorem l14 {tm : List (Nat × AV)} {hl : Nat} {R : List (List AV)} (h0 : look 0 tm = .vec hl) (h1 : look 1 tm = .f (.int .i64 j)) (h2 : look 2 tm = .vec idv) (h7 : look 7 tm = .f (.int .i64 1)) (hR : h.at hl = some (.rows k R)) (hRl : R.length = n + 1) (hk : 0 < k) (hj : j < n) (hn : n < lim) :
    runOps X (L14 k) ⟨tm, h⟩ = some ⟨(66, .sub hl (j + 1) (n - j)) :: (65, .f (.int .i64 (j + 1 : Nat))) :: (64, .f (.int .i64 1)) :: (63, .f (.int .i64 j)) :: (62, .vec hl) :: (61, .vec idv) :: tm, h⟩ := by
  have hlm : lim = 2 ^ 36 := rfl
  have hk0 : ¬ k = 0 := by omega
  have hwr : IntKind.i64.wrap ((j : Int) + 1) = (j : Int) + 1 := wrap64 (by omega) (by omega)
  have c3 : ((j : Int) + 1).toNat = j + 1 := by omega
  have c4 : (0 : Int) ≤ (j : Int) + 1 := by omega
  have c7 : n + 1 - (j + 1) = n - j := by omega
  have c8 : j ≤ n := by omega
  simp [L14, Ins.o, runOps, stepO, wanted, opE, St.ev, look, St.put, bin, binV, arith, bound, asInt, hwr, h0, h1, h2, h7, hR, hk0, wR, cR, hRl, c3, c4, c7, c8]
theorem i15 {tm : List (Nat × AV)} {hl : Nat} {R : List (List AV)} (h0 : look 0 tm = .vec hl) (h1 : look 1 tm = .f (.int .i64 j)) (h2 : look 2 tm = .vec idv) (h7 : look 7 tm = .f (.int .i64 1))
    (hR : h.at hl = some (.rows k R)) (hv : h.at idv = some xs) (hne : idv ≠ hl) (hx : xs.width = some k) (hxw : xs.whole = true) (hx1 : xs.count = 1) (hRl : R.length = n + 1) (hRw : ((R.drop j).take (n - j)).all (fun r => r.all AV.isCell) = true) (hk : 0 < k) (hj : j < n) (hn : n < lim) :
    exec X m 8 (I15 k) ⟨tm, h⟩ = some (.ret, ⟨[(6, .vec hl)], h.set hl (some (.rows k (splice (splice R (j + 1) ((R.drop j).take (n - j))) j (ofB xs))))⟩) := by
  have hlm : lim = 2 ^ 36 := rfl
  have hk0 : ¬ k = 0 := by omega
  have hlt := Heap.at_lt hR
  have q1 : ∀ B, Heap.at (h.set hl (some B)) hl = some B := fun B => by rw [Heap.at_set, if_pos ⟨rfl, hlt⟩]
  have q2 : ∀ B, Heap.at (h.set hl (some B)) idv = some xs := fun B => by rw [Heap.at_set, if_neg (fun e => hne e.1)]; exact hv
  have hwr : IntKind.i64.wrap ((j : Int) + 1) = (j : Int) + 1 := wrap64 (by omega) (by omega)
  have hcx : ∀ B, cont (h.set hl (some B)) (.vec idv) = some xs := fun B => cont_vec (q2 B) hx
  have hcb : cont h (.sub hl j (n + 1 - j)) = some (.rows k ((R.drop j).take (n + 1 - j))) := by
    rw [cont_sub hR rfl]; rfl
  have hcl : ((R.drop j).take (n + 1 - j)).length = n + 1 - j := by simp [hRl]
  have m1 : Nat.min 1 (n + 1 - j) = 1 := by simp only [Nat.min_def]; split <;> omega
  have m2 : Nat.min (n + 1 - j) (n - j) = n - j := by simp only [Nat.min_def]; split <;> omega
  have hxt : xs.take 1 = xs := take_all hx (by omega)
  have htt : ((R.drop j).take (n + 1 - j)).take (n - j) = (R.drop j).take (n - j) := by rw [List.take_take]; congr 1; omega
  have o1 : Blk.over (.rows k R) (j + 1) (.rows k ((R.drop j).take (n - j))) = some (.rows k (splice R (j + 1) ((R.drop j).take (n - j)))) := by
    simp only [Blk.over]
    rw [if_pos ⟨trivial, by simp [hRl]; omega⟩]
  have hs1 : (splice R (j + 1) ((R.drop j).take (n - j))).length = n + 1 := by simp [splice, hRl]; omega
  have hxl : (ofB xs).length = 1 := by rw [ofB_count hx, hx1]
  have o2 : Blk.over (.rows k (splice R (j + 1) ((R.drop j).take (n - j)))) j xs = some (.rows k (splice (splice R (j + 1) ((R.drop j).take (n - j))) j (ofB xs))) := over_rows hx (by rw [hxl, hs1]; omega)
  have c1 : j ≤ n + 1 := by omega
  have c3 : ((j : Int) + 1).toNat = j + 1 := by omega
  have c4 : (0 : Int) ≤ (j : Int) + 1 := by omega
  have c5 : j + (n + 1 - j) = n + 1 := by omega
  have c6 : j + 1 + (n - j) = n + 1 := by omega
  have c7 : n + 1 - (j + 1) = n - j := by omega
  have c8 : j ≤ n := by omega
  simp [I15, Ins.o, exec, runR, runOps, runLog, apart, stepO, wanted, opE, St.ev, look, St.put, St.keep, bin, binV, arith, bound, asInt, h0, h1, h2, h7, hR, q1, hcx, hcb, m1, m2, hcl, hxt, htt, hxw, hx1, o1, o2, hwr, hk0, hRl, hs1, wR, cR, tR', whR, hRw, c1, c3, c4, c5, c6, c7, c8]

/-- What the model says of slices.overlaps at rows of so many cells. -/
def OvlOk (P : Program) (fo : FuncId) (k : Nat) : Prop := ∃ fn tS tR e, P.funcs[fo]? = some fn ∧ (fn.name == "runtime.NumGoroutine") = false ∧ fn.body.isNone = true ∧ Extern.findNext fn = none ∧ Extern.find fn = some (Extern.SlicesOverlaps.overlaps #[tS, tS] #[tR]) ∧ P.underlying tS = some (.slice e) ∧ sizeIs P e k = true
theorem join_rows {a c : Blk} {r : Blk} {k : Nat} (h : Blk.join a c = some r) (hk : c.width = some k) : r.width = some k ∧ ofB r = ofB a ++ ofB c := by
  obtain ⟨k', j1, j2, j3, j4⟩ := join_ofB h
  rw [hk] at j2; cases j2
  exact ⟨j3, j4⟩
theorem splice_ins {α : Type} (l x : List α) (n j : Nat) (d : List α) (hl : l.length = n) (hx : x.length = 1) (hj : j < n) (hd : d.length = n + 1 - j) :
    splice (splice (l.take j ++ d) j x) (j + 1) (l.drop j) = l.take j ++ x ++ l.drop j := by
  have h1 : (l.take j).length = j := by simp; omega
  have h2 : splice (l.take j ++ d) j x = l.take j ++ x ++ d.drop 1 := by
    simp only [splice, hx]
    rw [List.take_append_of_le_length (by omega), List.take_of_length_le (by omega), List.drop_append, h1, List.drop_of_length_le (by rw [h1]; omega)]
    simp
  rw [h2]
  have h3 : (l.take j ++ x).length = j + 1 := by simp only [List.length_append, h1, hx]
  simp only [splice]
  have hz : List.drop (j + 1 + (l.drop j).length) (l.take j ++ x ++ d.drop 1) = [] := List.drop_of_length_le (by rw [List.length_append, h3, List.length_drop, List.length_drop, hd, hl]; omega)
  rw [hz, List.take_append_of_le_length (by omega), List.take_of_length_le (by omega), List.append_nil]
theorem splice_shift {α : Type} (l x d : List α) (n j : Nat) (hl : l.length = n) (hx : x.length = 1) (hd : d.length = 1) (hj : j < n) :
    splice (splice (l ++ d) (j + 1) (((l ++ d).drop j).take (n - j))) j x = l.take j ++ x ++ l.drop j := by
  have e1 : ((l ++ d).drop j).take (n - j) = l.drop j := by
    rw [List.drop_append_of_le_length (by omega), List.take_append_of_le_length (by simp; omega), List.take_of_length_le (by simp; omega)]
  rw [e1]
  have h1 : (l.take (j + 1)).length = j + 1 := by simp; omega
  have e2 : splice (l ++ d) (j + 1) (l.drop j) = l.take (j + 1) ++ l.drop j := by
    simp only [splice]
    have hz : List.drop (j + 1 + (l.drop j).length) (l ++ d) = [] := List.drop_of_length_le (by rw [List.length_append, List.length_drop, hl, hd]; omega)
    rw [hz, List.take_append_of_le_length (by omega), List.append_nil]
  rw [e2]
  simp only [splice, hx]
  rw [List.take_append_of_le_length (by omega), List.take_take, List.drop_append_of_le_length (by omega), List.drop_of_length_le (by omega)]
  rw [show min j (j + 1) = j by omega]
  simp
theorem heap_last {h : Heap} (B B' : Blk) : (h ++ [some B]).set h.length (some B') = h ++ [some B'] := by
  rw [List.set_append_right _ _ (Nat.le_refl _)]; simp
theorem at_last (h : Heap) (B : Blk) : Heap.at (h ++ [some B]) h.length = some B := by rw [Heap.at_append]; simp
theorem at_first {h : Heap} {id : Nat} {b B : Blk} (hat : h.at id = some b) : Heap.at (h ++ [some B]) id = some b := by
  rw [Heap.at_append, if_pos (Heap.at_lt hat)]; exact hat
theorem insert_ok (hm : P.follows .mixedOrders = true) {f fo : FuncId} (hc : Ins.chk P f k bytes fo = true) (hO : OvlOk P fo k) : PrimOk P f (insertP k) := by
  intro args h v h' hp F ε w us W ha
  have hl36 : lim = 2 ^ 36 := rfl
  unfold Ins.chk at hc
  split at hc <;> first | (cases hc; done) | skip
  rename_i fn hfn
  simp only [Bool.and_eq_true, decide_eq_true_eq] at hc
  obtain ⟨⟨⟨⟨⟨hname, hres⟩, hN⟩, hk0⟩, hby⟩, hbody⟩ := hc
  split at hbody <;> first | (cases hbody; done) | skip
  rename_i r0 r1 r2 r3 r5 r6 id8 os8 id9 os9 r10 id13 os13 id14 os14 r15 rest hb
  simp only [Bool.and_eq_true] at hbody
  obtain ⟨⟨⟨⟨⟨⟨⟨⟨⟨⟨⟨k0, k1⟩, k2⟩, k3⟩, k5⟩, k6⟩, k10⟩, k15⟩, k8⟩, k9⟩, k13⟩, k14⟩ := hbody
  split at k8 <;> first | (cases k8; done) | skip
  rename_i oC oG e8
  split at k9 <;> first | (cases k9; done) | skip
  rename_i oA oM9 e9
  split at k13 <;> first | (cases k13; done) | skip
  rename_i oS oM13 e13
  split at k14 <;> first | (cases k14; done) | skip
  rename_i oV oN e14
  simp only [Bool.and_eq_true] at k8 k9 k13 k14
  obtain ⟨k8a, k8b⟩ := k8
  obtain ⟨k9a, k9b⟩ := k9
  obtain ⟨k13a, k13b⟩ := k13
  obtain ⟨k14a, k14b⟩ := k14
  refine .inl ⟨⟨fn, hfn, hname, by rw [hb]; simp⟩, calls_of_wp hfn hb ?_⟩
  have A0 : At fn.ntmps h.length F ε h w [] (enter args h) { tmps := us.toArray ++ Array.replicate (fn.ntmps - us.toArray.size) undef, defers := [] } w :=
    ⟨F, ε, PostM.refl W (Nat.le_refl _), enter_rel ha _, by simp; omega, rfl⟩
  have fin : ∀ {a4 w4}, At fn.ntmps h.length F ε h w [] ⟨[(6, v)], h'⟩ a4 w4 → a4.defers = [] ∧ ∃ v', (Go.results fn a4.tmps).run P w4 = .ok v' w4 ∧ ∃ u, Ending.returned v' = .returned u ∧ ∃ F' ε', Post F ε h w F' ε' h' w4 ∧ VRel F' ε' v u := by
    rintro a4 w4 ⟨F4, ε4, p4, t4, n4, d4⟩
    obtain ⟨u4, q1, q2⟩ := results_run (P := P) (s := ⟨[(6, v)], h'⟩) (vs := [v]) p4.W t4 hres rfl
    exact ⟨d4, u4, q1, u4, rfl, F4, ε4, p4.post, q2⟩
  unfold insertP at hp
  split at hp <;> first | (cases hp; done) | skip
  · rename_i id i idv
    split at hp <;> first | (cases hp; done) | skip
    rename_i b xs hat hatv
    split at hp <;> first | (cases hp; done) | skip
    rename_i hcd
    obtain ⟨hne, hw, hx, hbw, hxw, hx1, hi0, hile, hlim⟩ := hcd
    split at hp <;> first | (cases hp; done) | skip
    rename_i b1 hj1
    split at hp <;> first | (cases hp; done) | skip
    rename_i b2 hj2
    simp only [Option.some.injEq, Prod.mk.injEq] at hp
    obtain ⟨rfl, rfl⟩ := hp
    obtain ⟨j, rfl⟩ : ∃ j : Nat, i = j := ⟨i.toNat, by omega⟩
    simp only [Int.toNat_natCast] at hile hj1 hj2
    obtain ⟨g1, g2⟩ := join_rows hj1 hx
    have hdw : (b.drop j).width = some k := by rw [(drop_ofB _ _).2, hw]
    obtain ⟨g3, g4⟩ := join_rows hj2 hdw
    have hb2 : ofB b2 = (ofB b).take j ++ ofB xs ++ (ofB b).drop j := by rw [g4, g2, (take_ofB _ _).1, (drop_ofB _ _).1]
    have hbl : (ofB b).length = b.count := ofB_count hw
    have hxl : (ofB xs).length = 1 := by rw [ofB_count hx, hx1]
    have hidlt := Heap.at_lt hat
    have hvlt := Heap.at_lt hatv
    refine A0.seqN X0_sound hm (i0 (.vec id) (.f (.int .i64 j)) (.vec idv) k) k0 fun a1 w1 A1 => ?_
    refine A1.seqN X0_sound hm (i1 (.vec idv) hat hw hk0 hile) k1 fun a2 w2 A2 => ?_
    refine A2.seqN X0_sound hm (i2 _ _ hatv hx hx1) k2 fun a3 w3 A3 => ?_
    refine A3.seqN X0_sound hm (i3 _ _ _) k3 fun a4 w4 A4 => ?_
    refine A4.seqN X0_sound hm (i5 _ _ _ hat hw) k5 fun a5 w5 A5 => ?_
    rcases Nat.eq_or_lt_of_le hile with hje | hjn
    · subst hje
      cases hjn : Blk.join b xs with
      | none =>
        exfalso
        have ha : b.take b.count = b := take_all hw (Nat.le_refl _)
        rw [ha, hjn] at hj1; cases hj1
      | some b' =>
        refine A5.seqR X0_sound hm (i6e _ hat hatv hw hx hxw hx1 hby hlim hjn) k6 fun a6 w6 A6 => fin ?_
        obtain ⟨y1, y2⟩ := join_rows hjn hx
        have hset : (h.set id none).length = h.length := by simp
        have A7 := A6.reblk (id := h.length) (B' := b2) (k := k) (by show Heap.at (h.set id none ++ [some b']) h.length = some b'; rw [← hset]; exact at_last _ _) y1 g3 (by
          rw [hb2, y2]
          rw [List.take_of_length_le (by omega), List.drop_of_length_le (by omega), List.append_nil])
        have hh := heap_last (h := h.set id none) b' b2
        rw [hset] at hh
        simpa only [hh] using A7
    · refine A5.seqN X0_sound hm (i6n _ hjn) k6 fun a6 w6 A6 => ?_
      -- how much room there is
      obtain ⟨l0, hl0, hB0⟩ := W.blk id b hat
      obtain ⟨z1, z2, z3⟩ := loc_le hB0 (by rw [hw]; simp)
      refine wp_seq (wp_seq (wp_region_list ?_))
      refine At.pre X0_sound e8 (l8 (idv := idv) (j := j) hlim) A6 fun a7 w7 A7 => ?_
      simp only [wpList]
      simp only [Ins.chkCap, Bool.and_eq_true, decide_eq_true_eq] at k8a
      obtain ⟨⟨c1, c2⟩, c3⟩ := k8a
      split at c3 <;> first | (cases c3; done) | skip
      rename_i cargs cts hCop
      split at c3 <;> first | (cases c3; done) | skip
      rename_i ct hca hct
      split at c3 <;> first | (cases c3; done) | skip
      rename_i ce hcu
      refine A7.cust (v := .f (.int .i64 l0.C)) (h' := h) c2 c1 (by omega) (fun F1 ε1 p1 t1 => ?_) fun a8 w8 A8 => ?_
      · have hv := t1 29
        simp only [look] at hv
        have he1 : ε1 id = some l0 := by rw [p1.env id hidlt]; exact hl0
        generalize hg : a7.tmps.getD 29 undef = u29 at hv
        cases hv with
        | vec e1 s1 =>
          rename_i l1 ad
          rw [he1] at e1; cases e1
          exact op_cap (x := .tmp 29) (ad := ad) (n := l0.n) hCop (Array.ext' (by simpa using hca)) (Array.ext' (by simpa using hct)) hcu hg p1.W
      · refine A8.op X0_sound (s' := ⟨(31, .f (.bool (decide ((l0.C : Int) < (b.count + 1 : Nat))))) :: (30, .f (.int .i64 l0.C)) :: (29, .vec id) :: (28, .f (.int .i64 (b.count + 1 : Nat))) :: (27, .f (.int .i64 1)) :: (26, .f (.int .i64 b.count)) :: [(0, .vec id), (1, .f (.int .i64 j)), (2, .vec idv), (7, .f (.int .i64 1)), (8, .f (.int .i64 b.count)), (22, .f (.bool false))], h⟩) k8b (by
          simp [Ins.o, stepO, wanted, opE, St.ev, look, St.put, bin, binV, arith, cmpInt]) fun a9 w9 A9 => ?_
        have h31 : a9.eval (.tmp 31) = .bool (decide ((l0.C : Int) < (b.count + 1 : Nat))) := by
          obtain ⟨F9, ε9, p9, t9, _, _⟩ := A9
          have hv := t9 31
          simp only [look] at hv
          show a9.tmps.getD 31 undef = _
          generalize a9.tmps.getD 31 undef = u31 at hv ⊢
          cases hv with | f hf => cases hf; rfl
        refine wp_cond h31 ?_
        by_cases hroom : (l0.C : Int) < (b.count + 1 : Nat)
        · -- no room: a new array
          simp only [hroom, decide_true, if_true]
          refine wp_seq (wp_region_list ?_)
          refine At.pre X0_sound e9 (l9 (id := id) (j := j) (n := b.count) rfl rfl rfl rfl hat hw rfl hk0 (by omega) hlim) A9 fun a10 w10 A10 => ?_
          simp only [wpList]
          simp only [Ins.chkApp, Bool.and_eq_true, decide_eq_true_eq] at k9a
          obtain ⟨⟨c1, c2⟩, c3⟩ := k9a
          split at c3 <;> first | (cases c3; done) | skip
          rename_i cargs cts hAop
          split at c3 <;> first | (cases c3; done) | skip
          rename_i at_ tn hca hct
          split at c3 <;> first | (cases c3; done) | skip
          rename_i ae akn hau han
          split at c3 <;> first | (cases c3; done) | skip
          rename_i inf hinf
          simp only [Bool.and_eq_true, beq_iff_eq] at c3
          obtain ⟨⟨c4, c5⟩, c6⟩ := c3
          split at c6 <;> first | (cases c6; done) | skip
          rename_i z hz
          simp only [beq_iff_eq] at c6
          refine A10.cust (v := .vec h.length) (h' := h ++ [some (.rows k ((ofB b).take j ++ List.replicate (b.count + 1 - j) (List.replicate k .dead)))]) c2 c1 (by omega) (fun F1 ε1 p1 t1 => ?_) fun a11 w11 A11 => ?_
          · have he1 : ε1 id = some l0 := by rw [p1.env id hidlt]; exact hl0
            exact op_app0 (kn := akn) (y := .t 34) (q' := .t 39) (x := .tmp 34) (u := .tmp 39) hAop (Array.ext' (by simpa using hct)) (Array.ext' (by simpa using hca)) rfl rfl hau han hinf hz c4 c6 (by omega) (i := j) (q := b.count + 1 - j) (l := l0) rfl hat hw he1 rfl (by omega) (by omega) hk0 (by omega) (by omega) p1.W t1
          · refine A11.op X0_sound (s' := ⟨(9, .vec h.length) :: (40, .vec h.length) :: _, _⟩) k9b rfl fun a12 w12 A12 => ?_
            refine A12.codeR X0_sound hm (i10 (hl := h.length) (id := id) (idv := idv) (j := j) (n := b.count) (b := b) (xs := xs) rfl rfl rfl rfl rfl (at_last _ _) (at_first hat) (at_first hatv) (by omega) hw hbw hx hxw hx1 rfl (by simp; omega) hk0 hjn hlim) k10 fun a13 w13 A13 => fin ?_
            rw [splice_ins _ _ b.count j _ hbl hxl hjn (by simp), heap_last] at A13
            have A14 := A13.drop id
            have A15 := A14.reblk (id := h.length) (B := .rows k ((ofB b).take j ++ ofB xs ++ (ofB b).drop j)) (B' := b2) (k := k) (by
              show Heap.at ((h ++ [some _]).set id none) h.length = _
              rw [Heap.at_set, if_neg (by omega)]; exact at_last _ _) rfl g3 hb2
            have hh : ((h ++ [some (Blk.rows k ((ofB b).take j ++ ofB xs ++ (ofB b).drop j))]).set id none).set h.length (some b2) = h.set id none ++ [some b2] := by
              rw [List.set_append_left _ _ hidlt]
              have := heap_last (h := h.set id none) (Blk.rows k ((ofB b).take j ++ ofB xs ++ (ofB b).drop j)) b2
              rwa [List.length_set] at this
            simpa only [hh] using A15
        · -- there is room
          simp only [hroom, decide_false, Bool.false_eq_true, if_false]
          refine wp_skip ?_
          show (Code.seq _ _).wp P _ _ _
          refine wp_seq (wp_region_list ?_)
          refine At.pre X0_sound e13 (l13 (id := id) (n := b.count) rfl rfl rfl hlim) A9 fun a10 w10 A10 => ?_
          simp only [wpList]
          simp only [Ins.chkSlx, Bool.and_eq_true, decide_eq_true_eq] at k13a
          obtain ⟨⟨c1, c2⟩, c3⟩ := k13a
          split at c3 <;> first | (cases c3; done) | skip
          rename_i st hSop
          split at c3 <;> first | (cases c3; done) | skip
          rename_i se hsu
          refine A10.cust (v := .vec h.length) (h' := h.set id none ++ [some (.rows k (ofB b ++ List.replicate 1 (List.replicate k .dead)))]) c2 c1 (by omega) (fun F1 ε1 p1 t1 => ?_) fun a11 w11 A11 => ?_
          · have he1 : ε1 id = some l0 := by rw [p1.env id hidlt]; exact hl0
            exact op_slext (y := .t 56) (hi' := .t 59) (n := b.count) (q := 1) (l := l0) hSop rfl rfl hsu c3 rfl hat hw he1 rfl rfl (by omega) hk0 (by omega) p1.W t1
          · have hsl : (h.set id none).length = h.length := by simp
            have hatl : ∀ B, Heap.at (h.set id none ++ [some B]) h.length = some B := fun B => by
              have := at_last (h.set id none) B
              rwa [hsl] at this
            have hatv' : ∀ B, Heap.at (h.set id none ++ [some B]) idv = some xs := fun B => at_first (by rw [Heap.at_set, if_neg (fun e => hne e.1.symm)]; exact hatv)
            refine A11.op X0_sound (s' := ⟨(0, .vec h.length) :: (60, .vec h.length) :: _, _⟩) k13b rfl fun a12 w12 A12 => ?_
            refine wp_seq (wp_seq (wp_region_list ?_))
            refine At.pre X0_sound e14 (l14 (hl := h.length) (idv := idv) (j := j) (n := b.count) rfl rfl rfl rfl (hatl _) (by simp [hbl]) hk0 hjn hlim) A12 fun a13 w13 A13 => ?_
            simp only [wpList]
            simp only [Ins.chkOvl, Bool.and_eq_true, decide_eq_true_eq] at k14a
            obtain ⟨⟨c4, c5⟩, c6⟩ := k14a
            split at c6 <;> first | (cases c6; done) | skip
            rename_i og oargs ots hOop
            simp only [Bool.and_eq_true, beq_iff_eq] at c6
            obtain ⟨rfl, c7⟩ := c6
            split at c7 <;> first | (cases c7; done) | skip
            rename_i hoa
            obtain ⟨fn', tS, tR, e', q1, q2, q3, q4, q5, q6, q7⟩ := hO
            refine A13.cust (v := .f (.bool false)) (h' := h.set id none ++ [some (.rows k (ofB b ++ List.replicate 1 (List.replicate k .dead)))]) c5 c4 (by omega) (fun F1 ε1 p1 t1 => ?_) fun a14 w14 A14 => ?_
            · exact op_ovl (y := .t 61) (z := .t 66) (x := .tmp 61) (u := .tmp 66) (i := idv) (j := h.length) (q := j + 1) (n := b.count - j) hOop (Array.ext' (by simpa using hoa)) rfl rfl q1 q2 q3 q4 q5 q6 q7 rfl rfl (hatv' _) (hatl _) (by omega) hx rfl hk0 (by omega) (by omega) p1.W t1
            · refine A14.op X0_sound (s' := ⟨(68, .f (.bool true)) :: (67, .f (.bool false)) :: _, _⟩) k14b rfl fun a15 w15 A15 => ?_
              have h68 : a15.eval (.tmp 68) = .bool true := by
                obtain ⟨F9, ε9, p9, t9, _, _⟩ := A15
                have hv := t9 68
                simp only [look] at hv
                show a15.tmps.getD 68 undef = _
                generalize a15.tmps.getD 68 undef = u68 at hv ⊢
                cases hv with | f hf => cases hf; rfl
              refine wp_cond h68 ?_
              show r15.wp P _ a15 w15
              have hRw : (((ofB b ++ List.replicate 1 (List.replicate k AV.dead)).drop j).take (b.count - j)).all (fun r => r.all AV.isCell) = true := by
                rw [List.drop_append_of_le_length (by omega), List.take_append_of_le_length (by simp; omega)]
                have := whole_cells hbw
                rw [List.all_eq_true] at this ⊢
                exact fun r hr => this r (List.mem_of_mem_drop (List.mem_of_mem_take hr))
              refine A15.codeR X0_sound hm (i15 (hl := h.length) (idv := idv) (j := j) (n := b.count) (xs := xs) rfl rfl rfl rfl (hatl _) (hatv' _) (by omega) hx hxw hx1 (by simp [hbl]) hRw hk0 hjn hlim) k15 fun a16 w16 A16 => fin ?_
              rw [splice_shift _ _ _ b.count j hbl hxl (by simp) hjn] at A16
              have A17 := A16.reblk (id := h.length) (B := .rows k ((ofB b).take j ++ ofB xs ++ (ofB b).drop j)) (B' := b2) (k := k) (by
                show Heap.at ((h.set id none ++ [some _]).set h.length (some _)) h.length = _
                rw [Heap.at_set, if_pos ⟨rfl, by simp⟩]) rfl g3 hb2
              have hh : ((h.set id none ++ [some (Blk.rows k (ofB b ++ List.replicate 1 (List.replicate k AV.dead)))]).set h.length (some (Blk.rows k ((ofB b).take j ++ ofB xs ++ (ofB b).drop j)))).set h.length (some b2) = h.set id none ++ [some b2] := by
                rw [List.set_set]
                have := heap_last (h := h.set id none) (Blk.rows k (ofB b ++ List.replicate 1 (List.replicate k AV.dead))) b2
                rwa [hsl] at this
              simpa only [hh] using A17
  · rename_i q i idv
    split at hp <;> first | (cases hp; done) | skip
    rename_i xs hatv
    split at hp <;> first | (cases hp; done) | skip
    rename_i hcd
    obtain ⟨rfl, hx, hxw, hx1, rfl⟩ := hcd
    split at hp <;> first | (cases hp; done) | skip
    rename_i b2 hj
    simp only [Option.some.injEq, Prod.mk.injEq] at hp
    obtain ⟨rfl, rfl⟩ := hp
    refine A0.seqN X0_sound hm (i0 (.sl0 q) (.f (.int .i64 0)) (.vec idv) q) k0 fun a1 w1 A1 => ?_
    refine A1.seqN X0_sound hm (i1s (.vec idv) hk0) k1 fun a2 w2 A2 => ?_
    refine A2.seqN X0_sound hm (i2 _ _ hatv hx hx1) k2 fun a3 w3 A3 => ?_
    refine A3.seqN X0_sound hm (i3 _ _ _) k3 fun a4 w4 A4 => ?_
    refine A4.seqN X0_sound hm (i5s _ _ _) k5 fun a5 w5 A5 => ?_
    exact A5.seqR X0_sound hm (i6s _ hatv hx hxw hx1 hby hj) k6 fun a6 w6 A6 => fin A6
end
end Go.Ab
