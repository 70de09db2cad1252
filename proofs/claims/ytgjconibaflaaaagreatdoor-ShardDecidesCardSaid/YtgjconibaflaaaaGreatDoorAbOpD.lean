/- One operation: clear of a slice, make of a slice; calls; which is which. -/
import Derived.Test.YtgjconibaflaaaaGreatDoorAbOpC
import Derived.Laws.BitsLemmas
namespace Go.Ab
open Go
set_option linter.unusedVariables false
set_option linter.unusedSimpArgs false
section
variable {P : Program} {F : Frz} {ε : Env} {w : World} {s s' : St} {a : Act} {o : Oper} {v : AV}

theorem zero_flat {z : List FV} {zc : Array Value} (h : LRel F ε (z.map .f) zc.toList) (h0 : 0 < z.length) (n : Nat) :
    Flat F ε z.length (ofF (List.replicate n z)) (Builtin.zeroCells zc n).toList ∧ ∀ v ∈ (Builtin.zeroCells zc n).toList, one v = true := by
  have hsz : zc.size = z.length := by simpa using h.1
  have hfl : Flat F ε z.length (ofF (List.replicate n z)) (Builtin.zeroCells zc n).toList := by
    refine ⟨by rw [zeroCells_len, hsz]; simp [ofF], fun r hr => ?_, fun i j x u hx hu => ?_⟩
    · simp only [ofF, List.map_replicate, List.mem_replicate] at hr
      rw [hr.2]; simp
    · rw [at2_ofF] at hx
      cases hq : at2 (List.replicate n z) i j with
      | none => rw [hq] at hx; cases hx
      | some y =>
        rw [hq] at hx; simp at hx; subst hx
        obtain ⟨r, hr, hj⟩ := at2_lt hq
        have hrz : r = z := by
          have := List.mem_of_getElem? hr
          exact (List.mem_replicate.1 this).2
        subst hrz
        have hjk : j < r.length := (List.getElem?_eq_some_iff.1 hj).1
        have hmod : (i * r.length + j) % zc.size = j := by rw [hsz, Nat.add_comm, Nat.add_mul_mod_self_right, Nat.mod_eq_of_lt hjk]
        simp only [Builtin.zeroCells, Array.toList_map, List.getElem?_map] at hu
        cases hrr : (Array.range (n * zc.size)).toList[i * r.length + j]? with
        | none => rw [hrr] at hu; cases hu
        | some q =>
          rw [hrr] at hu
          have hq' : q = i * r.length + j := by
            obtain ⟨_, e⟩ := List.getElem?_eq_some_iff.1 hrr
            simpa using e.symm
          subst hq'
          simp only [Option.map_some, Option.some.injEq, hmod] at hu
          have hjz : j < zc.size := by omega
          have : zc[j]! = zc[j] := by simp [hjz]
          rw [this] at hu
          subst hu
          exact h.2 j _ _ (by simp [hj]) (by simp [hjz])
  exact ⟨hfl, hfl.one (ofF_cells _)⟩
theorem op_clear_sub {t e : TypeId} {ts : Array TypeId} {args : Array Operand} {x : Operand} {y : AX} {id off n : Nat} {z : List FV} {b b' : Blk} (ho : o.op = .call { callee := .builtin .clear, args := args, argTypes := ts })
    (has : args = #[x]) (hts : ts = #[t]) (hx : chkX x y = true) (hu : P.underlying t = some (.slice e)) (hz : zeroOk P e (z.map .f) = true) (h0 : 0 < z.length) (hy : s.ev y = .sub id off n) (hat : s.hp.at id = some b)
    (hj : Blk.over b off (.frows z.length (List.replicate n z)) = some b') (W : WRel F ε s.hp w) (ht : TRel F ε s.tm a.tmps) : OpOk P o a F ε s.hp w (.tup []) (s.hp.set id (some b')) := by
  obtain ⟨k', j1, j2, j3, j4, j5⟩ := over_ofB hj
  obtain ⟨i, zv, hi, hiz, hrel, _, hsz⟩ := info_zero (F := F) (ε := ε) hz
  obtain ⟨f1, f2⟩ := zero_flat hrel h0 n
  simp only [Blk.width, Option.some.injEq] at j2
  subst j2
  have hr := ev_rel hx ht
  rw [hy] at hr
  obtain ⟨l, el, hb⟩ := W.blk id b hat
  have hcr := (brel_iff j1).1 hb
  have hnC := hcr.2.2.2.1
  have hbl : (ofB b).length = l.n := hcr.2.1
  have hcn : (ofB (.frows z.length (List.replicate n z))).length = n := by simp [ofB, ofF]
  generalize hev : a.eval x = ux at hr
  cases hr with
  | sub h hn ha =>
    rename_i l2 ad
    rw [el] at h; cases h
    obtain ⟨w', r1, r2⟩ := write_in (P := P) (n := 0) (xs := .frows z.length (List.replicate n z)) W hat el ha (by simpa using hj) j1 f1 f2
    subst has hts
    refine gives_value (run_builtin (P := P) (w := w) (a := a) (b := .clear) (args := #[x]) (ts := #[t]) (u := .tuple #[]) (w' := w') ho ?_) ⟨F, ε, r2, mk_tup (LRel.nil _ _)⟩
    simp only [builtin]
    refine run_v ?_
    cases ad with
    | none =>
      simp only [Sem.run_pure, Result.ok.injEq, true_and] at r1
      subst r1
      simp [Builtin.clear_, run_underlying hu, hev]
    | some ad =>
      have had : ad.add 0 = ad := by simp [Addr.add]
      simp only [Nat.zero_mul, had] at r1
      cases n with
      | zero =>
        have : (Builtin.zeroCells zv.cells 0).toList = [] := by simp [Builtin.zeroCells]
        rw [this] at r1
        simp only [storeCells, Sem.run_pure, Result.ok.injEq, true_and] at r1
        subst r1
        simp [Builtin.clear_, run_underlying hu, hev]
      | succ n =>
        simp [Builtin.clear_, run_underlying hu, hev, run_zeroValue hi hiz, r1]
theorem op_mkslice {t e : TypeId} {l c : Operand} {y : AX} {k : Nat} {z : List FV} {n : Int} {i : TypeInfo} (ho : o.op = .makeSlice t l c) (hu : P.underlying t = some (.slice e)) (hi : P.info? e = some i) (hik : i.size = k) (hb : i.bytes ≤ 1024)
    (hz : zeroOk P e (z.map .f) = true) (hzk : z.length = k) (h0 : 0 < k) (hl : chkX l y = true) (hc : chkX c y = true) (hn : asInt (s.ev y) = some n) (hn0 : 0 ≤ n) (hlim : n.toNat ≤ 2 ^ 36)
    (W : WRel F ε s.hp w) (ht : TRel F ε s.tm a.tmps) : OpOk P o a F ε s.hp w (.vec s.hp.length) (s.hp ++ [some (.frows k (List.replicate n.toNat z))]) := by
  obtain ⟨i', zv, hi', hiz, hrel, _, hsz⟩ := info_zero (F := F) (ε := ε) hz
  rw [hi] at hi'; cases hi'
  subst hzk
  obtain ⟨f1, f2⟩ := zero_flat hrel h0 n.toNat
  obtain ⟨kl, hel⟩ := asInt_rel (ev_rel hl ht) hn
  obtain ⟨kc, hec⟩ := asInt_rel (ev_rel hc ht) hn
  have hzs : zv.cells.size = z.length := by simpa using hrel.1
  obtain ⟨F', ε', hp, hv⟩ := post_vec W (e := e) (k := z.length) (B := .frows z.length (List.replicate n.toNat z)) (rs := ofF (List.replicate n.toNat z)) (ar := Builtin.zeroCells zv.cells n.toNat) (C := n.toNat) (fun h => h) f1.2.1 (by simp [ofF]) (by
      have := f1.1; simp [ofF] at this ⊢; omega) (fun p j x hx => by
      obtain ⟨u, h1, h2⟩ := f1.get hx
      exact ⟨u, by simpa using h1, h2⟩)
  have hlen : (ofF (List.replicate n.toNat z)).length = n.toNat := by simp [ofF]
  rw [hlen] at hv
  refine gives_value ?_ ⟨F', ε', hp, hv⟩
  simp only [execOp, ho]
  refine run_v ?_
  have hw : IntKind.i64.wrap n = n := by rw [IntKind.wrap_i64]; omega
  have hbn : (i.bytes : Int) * n ≤ 281474976710656 := by
    have h1 : (i.bytes : Int) * n ≤ 1024 * n := Int.mul_le_mul_of_nonneg_right (by omega) hn0
    omega
  have hsmall : ¬ (281474976710656 < (i.bytes : Int) * n) := by omega
  have hnn : ¬ n < 0 := by omega
  by_cases hzero : n.toNat * i.size = 0
  · have hz0 : Builtin.zeroCells zv.cells n.toNat = #[] := by
      apply Array.eq_empty_of_size_eq_zero
      simp only [Builtin.zeroCells, Array.size_map, Array.size_range, hzs, ← hik]; exact hzero
    have hor : n ≤ 0 ∨ i.size = 0 := by
      rcases Nat.mul_eq_zero.1 hzero with h | h
      · left; omega
      · right; exact h
    have hn00 : n = 0 := by rcases hor with h | h <;> omega
    subst hn00
    simp [Instr.makeSlice, run_underlying hu, hel, hec, Go.asInt, asIntOf, typeInfo, sizeOf, hi, hw, newRow, IntKind.wrap_i64]
    rw [show Builtin.zeroCells zv.cells 0 = #[] from hz0, show Array.range 0 = #[] by simp, Array.map_empty]
  · have hor : ¬ (n ≤ 0 ∨ i.size = 0) := by
      intro h
      rcases h with h | h
      · exact hzero (by rw [show n.toNat = 0 by omega]; simp)
      · exact hzero (by rw [h]; simp)
    have hzz : (Builtin.zeroCells zv.cells n.toNat) = (Array.range (n.toNat * i.size)).map (zv.cells[· % zv.cells.size]!) := by
      simp only [Builtin.zeroCells, hzs, hik]
    simp [Instr.makeSlice, run_underlying hu, hel, hec, Go.asInt, asIntOf, typeInfo, sizeOf, hi, hw, newRow, hsmall, hnn, hzero, hor, run_zeroValue hi hiz, hzz]
end
end Go.Ab
