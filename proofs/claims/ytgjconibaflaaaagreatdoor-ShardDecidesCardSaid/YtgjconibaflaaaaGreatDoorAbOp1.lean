/- One operation: those that only reckon, read, or make memory. -/
import Derived.Test.YtgjconibaflaaaaGreatDoorAbChk
namespace Go.Ab
open Go
set_option linter.unusedVariables false
set_option linter.unusedSimpArgs false

/-- More is frozen: what was one's own, or is new. -/
def FGrow (F F' : Frz) (ε : Env) (h : Heap) (w : World) : Prop := F.le F' ∧ ∀ b o, F' b = some o → F b = some o ∨ Own ε h b ∨ w.heap.size ≤ b
theorem FGrow.refl (F : Frz) (ε : Env) (h : Heap) (w : World) : FGrow F F ε h w := ⟨Frz.le_refl _, fun _ _ h => .inl h⟩
/-- What holds behind an operation, or a call. -/
structure Post (F : Frz) (ε : Env) (h : Heap) (w : World) (F' : Frz) (ε' : Env) (h' : Heap) (w' : World) : Prop where
  grow : FGrow F F' ε h w
  env : ∀ id, id < h.length → ε' id = ε id
  len : h.length ≤ h'.length
  W : WRel F' ε' h' w'
  fr : Fr ε h w w'
  own : OwnSub ε h w ε' h'
theorem Post.le {F ε h w F' ε' h' w'} (p : Post F ε h w F' ε' h' w') : F.le F' := p.grow.1
theorem Post.envle {F ε h w F' ε' h' w'} (W : WRel F ε h w) (p : Post F ε h w F' ε' h' w') : ε.le ε' := by
  intro id l he
  have : id < h.length := by
    rcases Nat.lt_or_ge id h.length with h1 | h1
    · exact h1
    · rw [W.dom id h1] at he; cases he
  rw [p.env id this]; exact he
theorem Post.refl {F ε h w} (W : WRel F ε h w) : Post F ε h w F ε h w := ⟨FGrow.refl _ _ _ _, fun _ _ => rfl, Nat.le_refl _, W, Fr.refl _ _ _, OwnSub.refl _ _ _⟩
theorem Post.trans {F ε h w F1 ε1 h1 w1 F2 ε2 h2 w2} (a : Post F ε h w F1 ε1 h1 w1) (b : Post F1 ε1 h1 w1 F2 ε2 h2 w2) : Post F ε h w F2 ε2 h2 w2 :=
  ⟨⟨Frz.le_trans a.le b.le, fun c o hc => by
    rcases b.grow.2 c o hc with h1 | h1 | h1
    · exact a.grow.2 c o h1
    · rcases Nat.lt_or_ge c w.heap.size with h2 | h2
      · exact .inr (.inl (a.own c h2 h1))
      · exact .inr (.inr h2)
    · exact .inr (.inr (Nat.le_trans a.fr.size h1))⟩, fun id hid => (b.env id (Nat.lt_of_lt_of_le hid a.len)).trans (a.env id hid), Nat.le_trans a.len b.len, b.W, a.fr.trans a.own b.fr, a.own.trans a.fr.size b.own⟩

/-- Of an operation: what it hands back, and in which world. -/
def Gives (P : Program) (o : Oper) (a : Act) (w : World) (R : Value → World → Prop) : Prop :=
  ∀ (next : Act → World → Prop) (Q : Exit → Act → World → Prop), (∀ u w', R u w' → next (a.put o.dst u) w') → o.wp P a w next Q
theorem gives_value {P : Program} {o : Oper} {a : Act} {w w' : World} {u : Value} {R : Value → World → Prop} (h : (execOp a.eval o).run P w = .ok (.value u) w') (hR : R u w') : Gives P o a w R := by
  intro next Q hn
  unfold Oper.wp
  rw [h]
  exact hn u w' hR
theorem gives_skip {P : Program} {o : Oper} {a : Act} {w w' : World} {R : Value → World → Prop} (h : (execOp a.eval o).run P w = .ok .skip w') (hR : R undef w') : Gives P o a w R := by
  intro next Q hn
  unfold Oper.wp
  rw [h]
  exact hn undef w' hR
theorem Gives.mono {P : Program} {o : Oper} {a : Act} {w : World} {R R' : Value → World → Prop} (h : Gives P o a w R) (hr : ∀ u w', R u w' → R' u w') : Gives P o a w R' :=
  fun next Q hn => h next Q fun u w' hu => hn u w' (hr u w' hu)

/-- What soundness of one operation says. -/
def OpOk (P : Program) (o : Oper) (a : Act) (F : Frz) (ε : Env) (h : Heap) (w : World) (v : AV) (h' : Heap) : Prop :=
  Gives P o a w fun u w' => ∃ F' ε', Post F ε h w F' ε' h' w' ∧ VRel F' ε' v u

section
variable {P : Program} {F : Frz} {ε : Env} {w : World} {s s' : St} {a : Act} {o : Oper} {v : AV}

theorem run_v {x : Sem Value} {u : Value} {w' : World} (h : x.run P w = .ok u w') : (do pure (Next.value (← x)) : Sem Next).run P w = .ok (.value u) w' := by
  simp [h]
theorem run_u {x : Sem Unit} {w' : World} (h : x.run P w = .ok () w') : (do x; pure Next.skip : Sem Next).run P w = .ok .skip w' := by
  simp [h]

theorem op_mv {y : AX} {x : Operand} (ho : o.op = .move x ∨ o.op = .assign x) (hx : chkX x y = true) (W : WRel F ε s.hp w) (ht : TRel F ε s.tm a.tmps) : OpOk P o a F ε s.hp w (s.ev y) s.hp := by
  refine gives_value (u := a.eval x) (w' := w) ?_ ⟨F, ε, .refl W, ev_rel hx ht⟩
  rcases ho with ho | ho <;> simp [execOp, ho]
theorem op_pick {c a1 b1 : AX} {c' a' b' : Operand} (ho : o.op = .pick c' a' b') (hc : chkX c' c = true) (ha : chkX a' a1 = true) (hb : chkX b' b1 = true) {t : Bool} (hcv : s.ev c = .f (.bool t))
    (W : WRel F ε s.hp w) (ht : TRel F ε s.tm a.tmps) : OpOk P o a F ε s.hp w (if t then s.ev a1 else s.ev b1) s.hp := by
  have hc' := ev_rel hc ht
  rw [hcv] at hc'
  cases hc' with
  | f h =>
    have he : a.eval c' = .bool t := by cases h' : a.eval c' <;> rw [h'] at h <;> cases h; rfl
    refine gives_value (u := if t then a.eval a' else a.eval b') (w' := w) ?_ ⟨F, ε, .refl W, ?_⟩
    · simp [execOp, ho, he, asBool]
    · cases t
      · exact ev_rel hb ht
      · exact ev_rel ha ht
theorem info_zero {t : TypeId} {z : List AV} (hz : zeroOk P t z = true) : ∃ i v, P.info? t = some i ∧ i.zero = some v ∧ LRel F ε z v.cells.toList ∧ z.all AV.isCell = true ∧ v.cells.size = z.length := by
  unfold zeroOk at hz
  cases hi : P.info? t with
  | none => simp [hi] at hz
  | some i =>
    simp only [hi, Option.any_some] at hz
    cases hv : i.zero with
    | none => simp [hv] at hz
    | some v =>
      simp only [hv] at hz
      have := sameL_rel (F := F) (ε := ε) hz
      exact ⟨i, v, rfl, hv, this.1, this.2, by simpa using this.1.1⟩
theorem run_zeroValue {t : TypeId} {i : TypeInfo} {v : Value} (h : P.info? t = some i) (hv : i.zero = some v) : (zeroValue t).run P w = .ok v w := by
  simp [zeroValue, typeInfo, h, hv]
theorem run_sizeOf {t : TypeId} {i : TypeInfo} (h : P.info? t = some i) : (sizeOf t).run P w = .ok i.size w := by
  simp [sizeOf, typeInfo, h]
theorem run_underlying {t : TypeId} {d : TypeDesc} (h : P.underlying t = some d) : (underlying t).run P w = .ok d w := by
  simp [underlying, h]

/-- A new row of one element. -/
theorem post_row1 (W : WRel F ε s.hp w) (e : TypeId) (cs : List AV) (us : Array Value) (hr : LRel F ε cs us.toList) :
    ∃ F' ε', Post F ε s.hp w F' ε' (s.hp ++ [some (.rows cs.length [cs])]) { w with heap := w.heap.push (.cells us e (0, 0)) } ∧ VRel F' ε' (.ptr s.hp.length 0 0) (.pointer (some ⟨w.heap.size, 0, none⟩)) := by
  obtain ⟨δ, h1, h2, h3, h4, h5, h6⟩ := W.push (.rows cs.length [cs]) (.cells us e (0, 0)) ⟨some w.heap.size, 0, cs.length, 1, 1⟩ rfl (by
    intro δ hδ
    refine ⟨rfl, rfl, by simp, Nat.le_refl _, us, e, by simp, by have := hr.1; simp at this; simp; omega, ?_⟩
    intro i j x hx
    unfold at2 at hx
    cases i with
    | succ i => simp at hx
    | zero =>
      simp at hx
      have hj : j < cs.length := (List.getElem?_eq_some_iff.1 hx).1
      have hju : j < us.size := by have := hr.1; simp at this; omega
      refine ⟨us[j], by simp [hju], ?_⟩
      exact (hr.2 j x us[j] hx (by simp [hju])).mono (Frz.le_refl _) hδ)
  refine ⟨F, δ, ⟨FGrow.refl _ _ _ _, h3, by simp, h4, h5, h6⟩, ?_⟩
  have := VRel.ptr (F := F) (ε := δ) 0 0 h2 rfl
  simpa using this

theorem op_new {t : TypeId} {k : Nat} {z : List AV} (ho : o.op = .alloc t) (hz : zeroOk P t z = true) (hk : z.length = k) (W : WRel F ε s.hp w) :
    OpOk P o a F ε s.hp w (.ptr s.hp.length 0 0) (s.hp ++ [some (.rows k [z])]) := by
  obtain ⟨i, u, hi, hu, hrel, _, hsz⟩ := info_zero (F := F) (ε := ε) hz
  obtain ⟨F', ε', hp, hv⟩ := post_row1 W t z u.cells hrel
  subst hk
  refine gives_value (w' := _) ?_ ⟨F', ε', hp, hv⟩
  simp only [execOp, ho]
  exact run_v (by simp [Instr.alloc, run_zeroValue hi hu, newVar, newRow])
theorem op_box {t : TypeId} {x : Operand} {y : AX} {cs : List AV} (ho : o.op = .box t x) (hx : chkX x y = true) (hs : (s.ev y).stored = some cs) (W : WRel F ε s.hp w) (ht : TRel F ε s.tm a.tmps) :
    OpOk P o a F ε s.hp w (.ptr s.hp.length 0 0) (s.hp ++ [some (.rows cs.length [cs])]) := by
  have hr := stored_rel (ev_rel hx ht) hs
  obtain ⟨F', ε', hp, hv⟩ := post_row1 W t cs (a.eval x).cells hr.1
  refine gives_value (w' := _) ?_ ⟨F', ε', hp, hv⟩
  simp only [execOp, ho]
  exact run_v (by simp [Instr.box, newVar, newRow])

/-- Where cells lie that are read. -/
theorem cells_rel (W : WRel F ε s.hp w) {x : AV} {u : Value} {n : Nat} {cs : List AV} (hx : VRel F ε x u) (hc : cellsAt s.hp x n = some cs) (hn : 0 < n) :
    ∃ c base us, u = .pointer (some ⟨c, base, none⟩) ∧ LRel F ε cs us ∧ us.length = n ∧ ∀ (j : Nat) v, us[j]? = some v → w.cell? ⟨c, base + j, none⟩ = some v := by
  cases hx with
  | ptr i j hε hl =>
    rename_i id c l
    simp only [cellsAt] at hc
    have key : ∀ k (rs : List (List AV)) (r : List AV), CRel F ε l k rs w → rs[i]? = some r → j + n ≤ r.length → (r.drop j).take n = cs →
        ∃ us, LRel F ε cs us ∧ us.length = n ∧ ∀ (q : Nat) v, us[q]? = some v → w.cell? ⟨c, l.base + i * l.k + j + q, none⟩ = some v := by
      intro k rs r hB hr hle hcs
      obtain ⟨hk, hn1, hlen, hnC, hm⟩ := hB
      simp only [hl] at hm
      obtain ⟨ar, e, hh, hsz, hcell⟩ := hm
      have hex : ∀ q, q < n → ∃ u, ar[l.base + i * k + (j + q)]? = some u ∧ ∃ x, cs[q]? = some x ∧ VRel F ε x u := by
        intro q hq
        have h1 : at2 rs i (j + q) = some r[j + q] := by simp [at2, hr]
        obtain ⟨u, hu1, hu2⟩ := hcell i (j + q) _ h1
        refine ⟨u, hu1, r[j + q], ?_, hu2⟩
        rw [← hcs, List.getElem?_take, if_pos hq, List.getElem?_drop]
        simp
      refine ⟨(List.range n).map fun q => (ar[l.base + i * k + (j + q)]?).getD undef, ⟨?_, ?_⟩, by simp, ?_⟩
      · rw [← hcs]; simp; omega
      · intro q x u hx hu
        have hq : q < n := by
          have := (List.getElem?_eq_some_iff.1 hu).1
          simpa using this
        obtain ⟨u', hu1, x', hx', hrel⟩ := hex q hq
        rw [hx] at hx'; cases hx'
        rw [List.getElem?_map, List.getElem?_range hq] at hu
        simp [hu1] at hu
        rw [← hu]; exact hrel
      · intro q u hu
        have hq : q < n := by
          have := (List.getElem?_eq_some_iff.1 hu).1
          simpa using this
        obtain ⟨u', hu1, _⟩ := hex q hq
        rw [List.getElem?_map, List.getElem?_range hq] at hu
        simp [hu1] at hu
        have hidx : l.base + i * l.k + j + q = l.base + i * k + (j + q) := by rw [hk]; omega
        rw [cell_of hh, hidx, hu1, hu]
    split at hc
    · rename_i k rs hat
      obtain ⟨l', he', hB⟩ := W.blk id _ hat
      rw [hε] at he'; cases he'
      split at hc
      · rename_i r hr
        split at hc
        · rename_i hle
          cases hc
          obtain ⟨us, h1, h2, h3⟩ := key k rs r hB hr hle rfl
          exact ⟨c, _, us, rfl, h1, h2, h3⟩
        · cases hc
      · cases hc
    · rename_i k rs hat
      obtain ⟨l', he', hB⟩ := W.blk id _ hat
      rw [hε] at he'; cases he'
      split at hc
      · rename_i r hr
        split at hc
        · rename_i hle
          cases hc
          have hB' : CRel F ε l k (ofF rs) w := hB
          obtain ⟨us, h1, h2, h3⟩ := key k (ofF rs) (r.map .f) hB' (by simp [ofF, hr]) (by simpa using hle) (by simp [List.map_drop, List.map_take])
          exact ⟨c, _, us, rfl, h1, h2, h3⟩
        · cases hc
      · cases hc
    · cases hc
  | fptr k rows b off ar e fr i j hF hk hcell =>
    simp only [cellsAt] at hc
    split at hc
    · rename_i r hr
      split at hc
      · rename_i hle
        cases hc
        have hh := W.frz _ _ hF
        have hex : ∀ q, q < n → ∃ u, ar[off + i * k + (j + q)]? = some u ∧ ∃ x, r[j + q]? = some x ∧ FRel F x u := by
          intro q hq
          have h1 : at2 rows i (j + q) = some r[j + q] := by simp [at2, hr]
          obtain ⟨u, hu1, hu2⟩ := hcell i (j + q) _ h1
          exact ⟨u, hu1, r[j + q], by simp, hu2⟩
        refine ⟨b, _, (List.range n).map fun q => (ar[off + i * k + (j + q)]?).getD undef, rfl, ⟨?_, ?_⟩, by simp, ?_⟩
        · simp; omega
        · intro q x u hx hu
          have hq : q < n := by
            have := (List.getElem?_eq_some_iff.1 hu).1
            simpa using this
          obtain ⟨u', hu1, x', hx', hrel⟩ := hex q hq
          rw [List.getElem?_map, List.getElem?_take, if_pos hq, List.getElem?_drop, hx'] at hx
          simp at hx; subst hx
          rw [List.getElem?_map, List.getElem?_range hq] at hu
          simp [hu1] at hu
          rw [← hu]; exact .f hrel
        · intro q u hu
          have hq : q < n := by
            have := (List.getElem?_eq_some_iff.1 hu).1
            simpa using this
          obtain ⟨u', hu1, _⟩ := hex q hq
          rw [List.getElem?_map, List.getElem?_range hq] at hu
          simp [hu1] at hu
          have hidx : off + i * k + j + q = off + i * k + (j + q) := by omega
          rw [cell_of hh, hidx, hu1, hu]
      · cases hc
    · cases hc
  | _ => cases hc
theorem run_isAgg_struct {t : TypeId} {fs} (h : P.underlying t = some (.struct fs)) : (isAgg t).run P w = .ok true w := by simp [isAgg, run_underlying h]
theorem run_isAgg_array {t : TypeId} {n e} (h : P.underlying t = some (.array n e)) : (isAgg t).run P w = .ok true w := by simp [isAgg, run_underlying h]
/-- A variable is read. -/
theorem var_rel (W : WRel F ε s.hp w) {t : TypeId} {agg : Option Nat} {x v : AV} {u : Value} {cs : List AV} (hagg : aggOk P t agg = true) (hx : VRel F ε x u) (hc : cellsAt s.hp x (agg.getD 1) = some cs) (hv : uncells agg cs = some v) :
    ∃ c base y, u = .pointer (some ⟨c, base, none⟩) ∧ (loadVar t ⟨c, base, none⟩).run P w = .ok y w ∧ VRel F ε v y := by
  have big : ∀ n, agg = some n → sizeIs P t n = true → (isAgg t).run P w = .ok true w → ∃ c base y, u = .pointer (some ⟨c, base, none⟩) ∧ (loadVar t ⟨c, base, none⟩).run P w = .ok y w ∧ VRel F ε v y := by
    intro n hn hs hia
    subst hn
    unfold sizeIs at hs
    cases hi : P.info? t with
    | none => simp [hi] at hs
    | some i =>
      simp [hi] at hs
      simp only [Option.getD_some] at hc
      simp only [uncells] at hv
      split at hv
      · rename_i hlen
        cases hv
        rcases Nat.eq_zero_or_pos n with h0 | h0
        · subst h0
          -- no cells: the address must still be one
          have hcs : cs = [] := List.length_eq_zero_iff.1 hlen
          subst hcs
          have : ∃ c base, u = .pointer (some ⟨c, base, none⟩) := by
            cases hx with
            | ptr i j hε hl => exact ⟨_, _, rfl⟩
            | fptr => exact ⟨_, _, rfl⟩
            | _ => cases hc
          obtain ⟨c, base, rfl⟩ := this
          refine ⟨c, base, .agg #[], rfl, ?_, .agg rfl (fun i v u hv => by simp at hv)⟩
          simp [loadVar, hia, run_sizeOf hi, hs, loadCells, loadCellsFrom]
        · obtain ⟨c, base, us, rfl, h1, h2, h3⟩ := cells_rel W hx hc h0
          refine ⟨c, base, .agg us.toArray, rfl, ?_, .agg (by simpa using h1.1) (fun i x y hx hy => h1.2 i x y hx (by simpa using hy))⟩
          have := run_loadCells (P := P) h3
          rw [h2] at this
          simp [loadVar, hia, run_sizeOf hi, hs, this]
      · cases hv
  have small : agg = none → (isAgg t).run P w = .ok false w → ∃ c base y, u = .pointer (some ⟨c, base, none⟩) ∧ (loadVar t ⟨c, base, none⟩).run P w = .ok y w ∧ VRel F ε v y := by
    intro hn hia
    subst hn
    simp only [Option.getD_none] at hc
    obtain ⟨c, base, us, rfl, h1, h2, h3⟩ := cells_rel W hx hc (by omega)
    match cs, hv with
    | [v'], hv =>
      simp only [uncells] at hv; cases hv
      match us, h2 with
      | [y], _ =>
        refine ⟨c, base, y, rfl, ?_, h1.2 0 _ _ rfl rfl⟩
        have := h3 0 y rfl
        simp only [Nat.add_zero] at this
        simp [loadVar, hia, this]
  unfold aggOk at hagg
  split at hagg
  · rename_i fs hu
    split at hagg
    · rename_i n
      exact big n rfl hagg (run_isAgg_struct hu)
    · cases hagg
  · rename_i n e hu
    split at hagg
    · rename_i n
      exact big n rfl hagg (run_isAgg_array hu)
    · cases hagg
  · rename_i d h1 h2 hd
    refine small (by simpa using hagg) ?_
    simp only [isAgg, Sem.run_bind, run_underlying hd, Result.andThen_ok]
    cases d <;> first | rfl | (exact absurd rfl (h1 _)) | (exact absurd rfl (h2 _ _))
  · cases hagg
theorem op_load {t : TypeId} {x : Operand} {agg : Option Nat} {y : AX} {cs : List AV} (ho : o.op = .load t x) (hagg : aggOk P t agg = true) (hx : chkX x y = true)
    (hc : cellsAt s.hp (s.ev y) (agg.getD 1) = some cs) (hv : uncells agg cs = some v) (W : WRel F ε s.hp w) (ht : TRel F ε s.tm a.tmps) : OpOk P o a F ε s.hp w v s.hp := by
  obtain ⟨c, base, u, hu, hrun, hrel⟩ := var_rel W hagg (ev_rel hx ht) hc hv
  refine gives_value (u := u) (w' := w) ?_ ⟨F, ε, .refl W, hrel⟩
  simp only [execOp, ho, hu]
  exact run_v (by simp [Instr.loadAt, Instr.sureAddr, hrun])
end
end Go.Ab
