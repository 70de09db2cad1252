/- One operation: conversions, addresses, parts, builtins that only reckon. -/
import Derived.Test.YtgjconibaflaaaaGreatDoorAbOp3
namespace Go.Ab
open Go
set_option linter.unusedVariables false
set_option linter.unusedSimpArgs false
section
variable {P : Program} {F : Frz} {ε : Env} {w : World} {s s' : St} {a : Act} {o : Oper} {v : AV}

theorem gives_pure {u : Value} {h : Heap} (hrun : (execOp a.eval o).run P w = .ok (.value u) w) (W : WRel F ε h w) (hv : VRel F ε v u) : OpOk P o a F ε h w v h :=
  gives_value hrun ⟨F, ε, .refl W, hv⟩

theorem some_of_isSome {α : Type} {x : Option α} (h : x.isSome = true) : ∃ y, x = some y := by cases x with | none => cases h | some y => exact ⟨y, rfl⟩
theorem op_toInt {sT dT : TypeId} {x : Operand} {y : AX} {k l : IntKind} {n : Int} (ho : o.op = .convert sT dT x) (hx : chkX x y = true) (hs : (P.underlying sT).isSome = true) (hd : P.underlying dT = some (.int k))
    (hv : s.ev y = .f (.int l n)) (W : WRel F ε s.hp w) (ht : TRel F ε s.tm a.tmps) : OpOk P o a F ε s.hp w (.f (.int k (k.wrap n))) s.hp := by
  have h := ev_rel hx ht; rw [hv] at h
  obtain ⟨d, hd0⟩ := some_of_isSome hs
  refine gives_pure ?_ W (.f (.int _ _))
  simp only [execOp, ho, rel_int h]
  refine run_v ?_
  simp [convert, run_underlying hd0, run_underlying hd, Conv.intToInt]
theorem op_toFloat {sT dT : TypeId} {x : Operand} {y : AX} {k : FloatKind} {l : IntKind} {n : Int} (ho : o.op = .convert sT dT x) (hx : chkX x y = true) (hs : (P.underlying sT).isSome = true) (hd : P.underlying dT = some (.float k))
    (hv : s.ev y = .f (.int l n)) (W : WRel F ε s.hp w) (ht : TRel F ε s.tm a.tmps) : OpOk P o a F ε s.hp w (.f (.float k (k.nearest n))) s.hp := by
  have h := ev_rel hx ht; rw [hv] at h
  obtain ⟨d, hd0⟩ := some_of_isSome hs
  refine gives_pure ?_ W (.f (.float _ _))
  simp only [execOp, ho, rel_int h]
  refine run_v ?_
  simp [convert, run_underlying hd0, run_underlying hd, Conv.intToFloat]
theorem op_strOfInt {sT dT : TypeId} {x : Operand} {y : AX} {k l : IntKind} {n : Int} (ho : o.op = .convert sT dT x) (hx : chkX x y = true) (hs : P.underlying sT = some (.int k)) (hd : P.underlying dT = some .string)
    (hv : s.ev y = .f (.int l n)) (W : WRel F ε s.hp w) (ht : TRel F ε s.tm a.tmps) : OpOk P o a F ε s.hp w (.f (.str (Utf8.encode n))) s.hp := by
  have h := ev_rel hx ht; rw [hv] at h
  refine gives_pure ?_ W (.f (.str _))
  simp only [execOp, ho, rel_int h]
  refine run_v ?_
  simp [convert, run_underlying hs, run_underlying hd, Conv.intToString]
theorem op_same {sT dT : TypeId} {x : Operand} {y : AX} {t : ByteArray} (ho : o.op = .convert sT dT x) (hx : chkX x y = true) (hs : P.underlying sT = some .string) (hd : P.underlying dT = some .string)
    (hv : s.ev y = .f (.str t)) (W : WRel F ε s.hp w) (ht : TRel F ε s.tm a.tmps) : OpOk P o a F ε s.hp w (s.ev y) s.hp := by
  have h := ev_rel hx ht; rw [hv] at h
  rw [hv]
  refine gives_pure (u := .string t) ?_ W (.f (.str _))
  simp only [execOp, ho, rel_str h]
  refine run_v ?_
  simp [convert, run_underlying hs, run_underlying hd]
theorem op_mkfn {fn : Fn} {as bs : Array Operand} {xs ys : List AX} (ho : o.op = .makeFunc fn as bs) (hx : chkXs as.toList xs = true) (hy : chkXs bs.toList ys = true)
    (W : WRel F ε s.hp w) (ht : TRel F ε s.tm a.tmps) : OpOk P o a F ε s.hp w (.fn fn (xs.map s.ev) (ys.map s.ev)) s.hp := by
  have h1 := evs_rel hx ht
  have h2 := evs_rel hy ht
  refine gives_pure (u := .func fn (as.map a.eval) (bs.map a.eval)) ?_ W ?_
  · simp only [execOp, ho]
    exact run_v rfl
  · refine .fn _ (by simpa using h1.1) (by simpa using h2.1) (fun i x u hx hu => h1.2 i x u hx (by rw [← Array.getElem?_toList] at hu; simpa using hu)) (fun i x u hx hu => h2.2 i x u hx (by rw [← Array.getElem?_toList] at hu; simpa using hu))
theorem op_faddr {sT : TypeId} {f off : Nat} {x : Operand} {y : AX} {fs : Array Field} {fd : Field} (ho : o.op = .fieldAddr sT x f) (hx : chkX x y = true) (hu : P.underlying sT = some (.struct fs)) (hf : fs[f]? = some fd)
    (hoff : fd.offset = off) (hsz : (P.info? fd.type).any (fun i => decide (i.size ≠ 0)) = true)
    (hv : (∃ id i j, s.ev y = .ptr id i j ∧ v = .ptr id i (j + off)) ∨ (∃ k rs i j, s.ev y = .fptr k rs i j ∧ v = .fptr k rs i (j + off)))
    (W : WRel F ε s.hp w) (ht : TRel F ε s.tm a.tmps) : OpOk P o a F ε s.hp w v s.hp := by
  have h := ev_rel hx ht
  cases hi : P.info? fd.type with
  | none => simp [hi] at hsz
  | some info =>
    simp [hi] at hsz
    have hrun : ∀ ad : Addr, a.eval x = .pointer (some ad) → (execOp a.eval o).run P w = .ok (.value (.pointer (some (ad.add off)))) w := by
      intro ad hp
      simp only [execOp, ho, hp]
      refine run_v ?_
      simp [Instr.fieldAt, run_underlying hu, hf, Instr.sureAddr, fieldPlace, run_sizeOf hi, hsz, hoff]
    rcases hv with ⟨id, i, j, e, rfl⟩ | ⟨k, rs, i, j, e, rfl⟩
    · rw [e] at h
      generalize hq : a.eval x = q at h
      cases h with
      | ptr i j hε hc =>
        refine gives_pure (hrun _ hq) W ?_
        rw [add_eq]
        have := VRel.ptr (F := F) i (j + off) hε hc
        rwa [← Nat.add_assoc] at this
    · rw [e] at h
      generalize hq : a.eval x = q at h
      cases h with
      | fptr k rs b o1 cs e1 fr i j hF hk hc =>
        refine gives_pure (hrun _ hq) W ?_
        rw [add_eq]
        have := VRel.fptr (ε := ε) k rs b o1 cs e1 fr i (j + off) hF hk hc
        rwa [← Nat.add_assoc] at this
theorem uncells_rel {t : TypeId} {agg : Option Nat} {us : Array Value} {cs : List AV} {off : Nat} (hagg : aggOk P t agg = true) (hr : LRel F ε cs us.toList) (hle : off + agg.getD 1 ≤ cs.length)
    (hv : uncells agg ((cs.drop off).take (agg.getD 1)) = some v) : ∃ u, (part t us off).run P w = .ok u w ∧ VRel F ε v u := by
  have hsz : us.size = cs.length := by simpa using hr.1
  have big : ∀ n, agg = some n → sizeIs P t n = true → (isAgg t).run P w = .ok true w → ∃ u, (part t us off).run P w = .ok u w ∧ VRel F ε v u := by
    intro n hn hs hia
    subst hn
    unfold sizeIs at hs
    cases hi : P.info? t with
    | none => simp [hi] at hs
    | some i =>
      simp [hi] at hs
      simp only [Option.getD_some] at hle hv
      simp only [uncells] at hv
      split at hv
      · cases hv
        refine ⟨.agg (us.extract off (off + n)), by simp [part, hia, run_sizeOf hi, hs], .agg (by simp; omega) ?_⟩
        intro i x u hx hu
        rw [Array.getElem?_extract] at hu
        rw [List.getElem?_take] at hx
        split at hu
        · rename_i hlt
          rw [if_pos (by omega), List.getElem?_drop] at hx
          exact hr.2 _ _ _ hx (by simpa using hu)
        · cases hu
      · cases hv
  unfold aggOk at hagg
  split at hagg
  · rename_i fs hu
    split at hagg
    · exact big _ rfl hagg (run_isAgg_struct hu)
    · cases hagg
  · rename_i n e hu
    split at hagg
    · exact big _ rfl hagg (run_isAgg_array hu)
    · cases hagg
  · rename_i d h1 h2 hd
    have hn : agg = none := by simpa using hagg
    subst hn
    simp only [Option.getD_none] at hle hv
    have hlt : off < cs.length := by omega
    have e1 : (cs.drop off).take 1 = [cs[off]] := by
      rw [List.take_one, List.head?_drop, List.getElem?_eq_getElem hlt]; rfl
    rw [e1] at hv
    simp only [uncells] at hv
    cases hv
    refine ⟨us[off]'(by omega), ?_, hr.2 off _ _ (by simp [hlt]) (by simp)⟩
    have hia : (isAgg t).run P w = .ok false w := by
      simp only [isAgg, Sem.run_bind, run_underlying hd, Result.andThen_ok]
      cases d <;> first | rfl | (exact absurd rfl (h1 _)) | (exact absurd rfl (h2 _ _))
    have : us[off]? = some (us[off]'(by omega)) := by simp
    simp [part, hia, this]
  · cases hagg
theorem op_field {t : TypeId} {f off : Nat} {agg : Option Nat} {x : Operand} {y : AX} {fs : Array Field} {fd : Field} {cs : List AV} (ho : o.op = .field t x f) (hx : chkX x y = true) (hu : P.underlying t = some (.struct fs)) (hf : fs[f]? = some fd)
    (hoff : fd.offset = off) (hagg : aggOk P fd.type agg = true) (he : s.ev y = .agg cs) (hle : off + agg.getD 1 ≤ cs.length) (hv : uncells agg ((cs.drop off).take (agg.getD 1)) = some v)
    (W : WRel F ε s.hp w) (ht : TRel F ε s.tm a.tmps) : OpOk P o a F ε s.hp w v s.hp := by
  have h := ev_rel hx ht; rw [he] at h
  obtain ⟨us, hus, hr⟩ := rel_agg h
  obtain ⟨u, hrun, hrel⟩ := uncells_rel (P := P) (w := w) hagg hr hle hv
  refine gives_pure ?_ W hrel
  simp only [execOp, ho, hus]
  refine run_v ?_
  simp [Instr.field, run_underlying hu, hf, asAgg, hoff, hrun]
theorem asInt_rel {x : AV} {u : Value} {n : Int} (h : VRel F ε x u) (hn : asInt x = some n) : ∃ k, u = .int k n := by
  cases x <;> simp only [asInt] at hn <;> try (cases hn; done)
  rename_i fv
  cases fv <;> simp only at hn <;> try (cases hn; done)
  cases hn
  exact ⟨_, rel_int h⟩
theorem op_extr {x : Operand} {y : AX} {i : Nat} {vs : List AV} (ho : o.op = .extract x i) (hx : chkX x y = true) (he : s.ev y = .tup vs) (hv : vs[i]? = some v)
    (W : WRel F ε s.hp w) (ht : TRel F ε s.tm a.tmps) : OpOk P o a F ε s.hp w v s.hp := by
  have h := ev_rel hx ht; rw [he] at h
  obtain ⟨us, hus, hr⟩ := rel_tup h
  have hlt : i < vs.length := (List.getElem?_eq_some_iff.1 hv).1
  have hlu : i < us.size := by have := hr.1; simp at this; omega
  refine gives_pure (u := us[i]) ?_ W (hr.2 i v _ hv (by simp [hlu]))
  simp only [execOp, ho, hus]
  exact run_v (by simp [Instr.extract, hlu])
end
end Go.Ab
