/- One operation: values and vectors that are built. -/
import Derived.Test.YtgjconibaflaaaaGreatDoorAbOp8
namespace Go.Ab
open Go
set_option linter.unusedVariables false
set_option linter.unusedSimpArgs false
section
variable {P : Program} {F : Frz} {ε : Env} {w : World} {s s' : St} {a : Act} {o : Oper} {v : AV}

theorem foldl_over (off : Nat) : ∀ (l : List Value) (k : Nat) (cells : Array Value), (l.zipIdx k).foldl (fun cs (x : Value × Nat) => cs.setIfInBounds (off + x.2) x.1) cells = overA cells (off + k) l
  | [], _, _ => rfl
  | v :: l, k, cells => by
    simp only [List.zipIdx_cons, List.foldl_cons, overA]
    rw [foldl_over off l (k + 1)]
    rfl
theorem fold_cells (off : Nat) (us cells : Array Value) : us.zipIdx.foldl (fun cs (c, j) => cs.setIfInBounds (off + j) c) cells = overA cells off us.toList := by
  rw [← Array.foldl_toList]
  have := foldl_over off us.toList 0 cells
  rw [Nat.add_zero] at this
  rw [← this]
  congr 1
  simp
theorem LRel_over {cs xs : List AV} {ar : Array Value} {us : List Value} {off : Nat} (h : LRel F ε cs ar.toList) (hx : LRel F ε xs us) (hle : off + xs.length ≤ cs.length) : LRel F ε (splice cs off xs) (overA ar off us).toList := by
  have hs : ar.size = cs.length := by simpa using h.1
  refine ⟨by rw [splice_length _ _ _ hle]; simpa [overA_size] using hs, fun i x u hi hu => ?_⟩
  rw [splice_get _ _ _ hle] at hi
  rw [Array.getElem?_toList, overA_get _ _ _ (by rw [hx.1]; omega), hx.1] at hu
  split at hi
  · rename_i hc
    rw [if_pos hc] at hu
    exact hx.2 _ _ _ hi hu
  · rename_i hc
    rw [if_neg hc] at hu
    exact h.2 _ _ _ hi (by simpa using hu)
theorem fill_rel (place : Nat → Option (Nat × Nat)) (ht : TRel F ε s.tm a.tmps) : ∀ {ps : List (Nat × Operand)} {qs : List (Nat × Nat × AX)} {cs cs' : List AV} {ar : Array Value}, chkParts place ps qs = true → LRel F ε cs ar.toList →
    fill cs (qs.map fun (o, n, x) => (o, n, s.ev x)) = some cs' → ∃ ar', Instr.fill place ar (ps.map fun (i, x) => (i, a.eval x)) = some ar' ∧ LRel F ε cs' ar'.toList
  | [], [], cs, cs', ar, _, h, hf => by
    simp [fill] at hf; subst hf
    exact ⟨ar, rfl, h⟩
  | (i, x) :: ps, (off, n, y) :: qs, cs, cs', ar, hc, h, hf => by
    simp only [chkParts, Bool.and_eq_true, decide_eq_true_eq] at hc
    obtain ⟨⟨hp, hx⟩, hrest⟩ := hc
    simp only [List.map_cons, fill] at hf
    split at hf
    · rename_i xs hs
      split at hf
      · rename_i hle
        obtain ⟨h1, h2, h3⟩ := stored_rel (ev_rel hx ht) hs
        have hsz : ar.size = cs.length := by simpa using h.1
        have hov := LRel_over h h1 (off := off) (by omega)
        obtain ⟨ar', e1, e2⟩ := fill_rel place ht hrest hov hf
        refine ⟨ar', ?_, e2⟩
        simp only [List.map_cons, Instr.fill, hp]
        rw [if_neg]
        · rw [fold_cells]; exact e1
        · simp; omega
      · cases hf
    · cases hf
  | [], _ :: _, _, _, _, hc, _, _ => by simp [chkParts] at hc
  | _ :: _, [], _, _, _, hc, _, _ => by simp [chkParts] at hc
theorem run_places {fs : Array Field} (h : fs.all (fun f => (P.info? f.type).isSome) = true) :
    (fs.mapM fun f => (do pure (f.offset, ← sizeOf f.type) : Sem (Nat × Nat))).run P w = .ok (fs.map fun f => (f.offset, P.cellsOf f.type)) w := by
  rw [Array.mapM_eq_mapM_toList]
  have key : ∀ l : List Field, (∀ f ∈ l, (P.info? f.type).isSome = true) → (l.mapM fun f => (do pure (f.offset, ← sizeOf f.type) : Sem (Nat × Nat))).run P w = .ok (l.map fun f => (f.offset, P.cellsOf f.type)) w := by
    intro l
    induction l with
    | nil => intro _; rfl
    | cons f l ih =>
      intro hl
      rw [List.mapM_cons]
      obtain ⟨i, hi⟩ := some_of_isSome (hl f (by simp))
      have hcell : P.cellsOf f.type = i.size := by simp [Program.cellsOf, hi]
      simp only [Sem.run_bind, run_sizeOf hi, Result.andThen_ok, Sem.run_pure]
      rw [ih (fun g hg => hl g (by simp [hg]))]
      simp [hcell]
  have h' : ∀ f ∈ fs.toList, (P.info? f.type).isSome = true := by
    intro f hf
    rw [Array.all_eq_true_iff_forall_mem] at h
    exact h f (by simpa using hf)
  rw [Sem.run_map, key _ h']
  simp only [Result.andThen_ok]
  congr 1
  apply Array.ext'
  simp
theorem op_build {t : TypeId} {z : List AV} {ps : Array (Nat × Operand)} {qs : List (Nat × Nat × AX)} {cs : List AV} (ho : o.op = .build t ps) (hz : zeroOk P t z = true)
    (hu : (∃ fs, P.underlying t = some (.struct fs) ∧ fs.all (fun f => (P.info? f.type).isSome) = true ∧ chkParts (fieldPlaces P fs) ps.toList qs = true) ∨ (∃ n e j, P.underlying t = some (.array n e) ∧ P.info? e = some j ∧ chkParts (fun i => some (i * j.size, j.size)) ps.toList qs = true))
    (hf : fill z (qs.map fun (o, n, x) => (o, n, s.ev x)) = some cs) (W : WRel F ε s.hp w) (ht : TRel F ε s.tm a.tmps) : OpOk P o a F ε s.hp w (.agg cs) s.hp := by
  obtain ⟨i, u, hi, huz, hrel, _, hsz⟩ := info_zero (F := F) (ε := ε) hz
  have hpl : (ps.map fun (x : Nat × Operand) => (x.1, a.eval x.2)).toList = ps.toList.map fun (i, x) => (i, a.eval x) := by simp
  rcases hu with ⟨fs, hu, hfs, hc⟩ | ⟨n, e, j, hu, hj, hc⟩
  · obtain ⟨ar, e1, e2⟩ := fill_rel (fieldPlaces P fs) ht hc hrel hf
    refine gives_pure (u := .agg ar) ?_ W (by have := mk_agg e2; simpa using this)
    simp only [execOp, ho]
    refine run_v ?_
    have hplace : (fun i => (fs.map fun f => (f.offset, P.cellsOf f.type))[i]?) = fieldPlaces P fs := by
      funext i
      unfold fieldPlaces
      rw [Array.getElem?_map]
      cases hf2 : fs[i]? with
      | none => rfl
      | some f =>
        have : (P.info? f.type).isSome = true := by
          rw [Array.all_eq_true_iff_forall_mem] at hfs
          exact hfs f (Array.mem_of_getElem? hf2)
        obtain ⟨q, hq⟩ := some_of_isSome this
        simp [hq, Program.cellsOf]
    simp only [Instr.build, Sem.run_bind, run_zeroValue hi huz, Result.andThen_ok, run_underlying hu, run_places hfs]
    rw [hplace, hpl, e1]
    rfl
  · obtain ⟨ar, e1, e2⟩ := fill_rel _ ht hc hrel hf
    refine gives_pure (u := .agg ar) ?_ W (by have := mk_agg e2; simpa using this)
    simp only [execOp, ho]
    refine run_v ?_
    simp only [Instr.build, Sem.run_bind, run_zeroValue hi huz, Result.andThen_ok, run_underlying hu, run_sizeOf hj]
    rw [hpl, e1]
    rfl

/-- Rows one behind the other. -/
theorem fillRow_rel {k : Nat} (ht : TRel F ε s.tm a.tmps) : ∀ {ps : List (Nat × Operand)} {xs : List AX} {i : Nat} {rs : List (List AV)} {ar : Array Value}, chkRow k i ps xs = true → storedAll k (xs.map s.ev) = some rs →
    i * k + rs.length * k ≤ ar.size → ∃ ar', Instr.fill (fun i => some (i * k, k)) ar (ps.map fun (i, x) => (i, a.eval x)) = some ar' ∧ ar'.size = ar.size ∧ (∀ q, q < i * k → ar'[q]? = ar[q]?) ∧
      (∀ p j x, at2 rs p j = some x → ∃ u, ar'[(i + p) * k + j]? = some u ∧ VRel F ε x u) ∧ (∀ r ∈ rs, r.length = k) ∧ rs.length = xs.length
  | [], [], i, rs, ar, _, hs, hle => by
    simp [storedAll] at hs; subst hs
    exact ⟨ar, rfl, rfl, fun _ _ => rfl, fun p j x hx => by simp [at2] at hx, fun r hr => by simp at hr, rfl⟩
  | (j, x) :: ps, y :: xs, i, rs, ar, hc, hs, hle => by
    simp only [chkRow, Bool.and_eq_true, beq_iff_eq] at hc
    obtain ⟨⟨rfl, hx⟩, hrest⟩ := hc
    simp only [List.map_cons, storedAll] at hs
    split at hs
    · rename_i cs r hcs hr
      split at hs
      · rename_i hlen
        cases hs
        simp only [List.length_cons, Nat.add_mul, Nat.one_mul] at hle
        obtain ⟨h1, h2, h3⟩ := stored_rel (ev_rel hx ht) hcs
        have hsz : (a.eval x).cells.size = k := by omega
        obtain ⟨ar', e1, e2, e3, e4, e5, e6⟩ := fillRow_rel ht (ar := overA ar (i * k) (a.eval x).cells.toList) hrest hr (by rw [overA_size, Nat.add_mul, Nat.one_mul]; omega)
        refine ⟨ar', ?_, by rw [e2, overA_size], fun q hq => ?_, fun p j z hz => ?_, ?_, by simp [e6]⟩
        · simp only [List.map_cons, Instr.fill]
          rw [if_neg]
          · rw [fold_cells]; exact e1
          · simp; omega
        · rw [e3 q (by rw [Nat.add_mul, Nat.one_mul]; omega), overA_get _ _ _ (by simp; omega), if_neg (by omega)]
        · cases p with
          | zero =>
            have hz' : cs[j]? = some z := by simpa [at2] using hz
            have hj : j < cs.length := (List.getElem?_eq_some_iff.1 hz').1
            have hju : j < (a.eval x).cells.size := by omega
            refine ⟨(a.eval x).cells[j], ?_, h1.2 j z _ hz' (by simp [hju])⟩
            rw [Nat.add_zero, e3 _ (by rw [Nat.add_mul, Nat.one_mul]; omega), overA_get _ _ _ (by simp; omega), if_pos (by simp; omega)]
            rw [show i * k + j - i * k = j by omega]
            simp [hju]
          | succ p =>
            have hz' : at2 r p j = some z := by simpa [at2] using hz
            obtain ⟨u, hu1, hu2⟩ := e4 p j z hz'
            refine ⟨u, ?_, hu2⟩
            rw [show i + (p + 1) = i + 1 + p by omega]; exact hu1
        · intro r' hr'
          rcases List.mem_cons.1 hr' with h | h
          · subst h; exact hlen
          · exact e5 r' h
      · cases hs
    · cases hs
  | [], _ :: _, _, _, _, hc, _, _ => by simp [chkRow] at hc
  | _ :: _, [], _, _, _, hc, _, _ => by simp [chkRow] at hc
theorem toFss_ofF : ∀ {rs : List (List AV)} {fs : List (List FV)}, toFss rs = some fs → fs.length = rs.length ∧ ∀ (i : Nat) r, rs[i]? = some r → ∃ f, fs[i]? = some f ∧ toFs r = some f
  | [], fs, h => by simp [toFss] at h; subst h; exact ⟨rfl, fun i r hr => by simp at hr⟩
  | r :: rs, fs, h => by
    simp only [toFss] at h
    split at h
    · rename_i x y hx hy
      cases h
      obtain ⟨h1, h2⟩ := toFss_ofF hy
      refine ⟨by simp [h1], fun i r' hr' => ?_⟩
      cases i with
      | zero => simp at hr'; subst hr'; exact ⟨x, rfl, hx⟩
      | succ i => exact h2 i r' (by simpa using hr')
    · cases h
theorem toFs_get : ∀ {vs : List AV} {xs : List FV}, toFs vs = some xs → ∀ (j : Nat) x, xs[j]? = some x → ∃ v, vs[j]? = some v ∧ v.toF = some x
  | [], xs, h, j, x, hx => by simp [toFs] at h; subst h; simp at hx
  | v :: vs, xs, h, j, x, hx => by
    simp only [toFs] at h
    split at h
    · rename_i y r hy hr
      cases h
      cases j with
      | zero => simp at hx; subst hx; exact ⟨v, rfl, hy⟩
      | succ j => exact toFs_get hr j x (by simpa using hx)
    · cases h
theorem mkRows_rel {k : Nat} {rs : List (List AV)} {l : Loc} (h : CRel F ε l k rs w) : BRel F ε l w (mkRows k rs) := by
  unfold mkRows
  split
  · rename_i fs hfs
    obtain ⟨h1, h2, h3, h4, h5⟩ := h
    obtain ⟨e1, e2⟩ := toFss_ofF hfs
    refine ⟨h1, by simp [ofF, e1, h2], ?_, h4, ?_⟩
    · intro r hr
      simp only [ofF, List.mem_map] at hr
      obtain ⟨f, hf, rfl⟩ := hr
      obtain ⟨i, hi⟩ := List.getElem?_of_mem hf
      have hlt : i < rs.length := by have := (List.getElem?_eq_some_iff.1 hi).1; omega
      obtain ⟨f', g1, g2⟩ := e2 i rs[i] (by simp [hlt])
      rw [hi] at g1; cases g1
      rw [List.length_map, toFs_length g2]
      exact h3 _ (List.getElem_mem hlt)
    · cases hc : l.c with
      | none => simpa [hc] using h5
      | some c =>
        simp only [hc] at h5 ⊢
        obtain ⟨ar, e, a1, a2, a3⟩ := h5
        refine ⟨ar, e, a1, a2, fun i j x hx => ?_⟩
        rw [at2_ofF] at hx
        cases hq : at2 fs i j with
        | none => rw [hq] at hx; cases hx
        | some y =>
          rw [hq] at hx; simp at hx; subst hx
          obtain ⟨f, hf1, hf2⟩ := at2_lt hq
          have hlt : i < rs.length := by have := (List.getElem?_eq_some_iff.1 hf1).1; omega
          obtain ⟨f', g1, g2⟩ := e2 i rs[i] (by simp [hlt])
          rw [hf1] at g1; cases g1
          obtain ⟨v, v1, v2⟩ := toFs_get g2 j y hf2
          obtain ⟨u, u1, u2⟩ := a3 i j v (by simp [at2, hlt, v1])
          exact ⟨u, u1, .f (toF_rel v2 u2)⟩
  · exact h
/-- A new vector. -/
theorem post_vec (W : WRel F ε s.hp w) {e : TypeId} {k : Nat} {B : Blk} {rs : List (List AV)} {ar : Array Value} {C : Nat} (hB : ∀ {δ : Env} {w'} {l : Loc}, CRel F δ l k rs w' → BRel F δ l w' B) (hk : ∀ r ∈ rs, r.length = k) (hC : rs.length ≤ C) (hsz : C * k ≤ ar.size)
    (hcell : ∀ p j x, at2 rs p j = some x → ∃ u, ar[p * k + j]? = some u ∧ VRel F ε x u) :
    ∃ F' ε', Post F ε s.hp w F' ε' (s.hp ++ [some B]) { w with heap := w.heap.push (.cells ar e (0, 0)) } ∧ VRel F' ε' (.vec s.hp.length) (.slice (some ⟨w.heap.size, 0, none⟩) rs.length C) := by
  obtain ⟨δ, h1, h2, h3, h4, h5, h6⟩ := W.push B (.cells ar e (0, 0)) ⟨some w.heap.size, 0, k, rs.length, C⟩ rfl (by
    intro δ hδ
    refine hB ⟨rfl, rfl, hk, hC, ar, e, by simp, by simpa using hsz, fun p j x hx => ?_⟩
    obtain ⟨u, u1, u2⟩ := hcell p j x hx
    exact ⟨u, by simpa using u1, u2.mono (Frz.le_refl _) hδ⟩)
  refine ⟨F, δ, ⟨FGrow.refl _ _ _ _, h3, by simp, h4, h5, h6⟩, ?_⟩
  have := VRel.vec (F := F) (a := some ⟨w.heap.size, 0, none⟩) h2 (by right; simp)
  exact this
theorem storedAll_len {k : Nat} : ∀ {l : List AV} {rs : List (List AV)}, storedAll k l = some rs → rs.length = l.length
  | [], rs, h => by simp [storedAll] at h; subst h; rfl
  | v :: l, rs, h => by
    simp only [storedAll] at h
    split at h
    · rename_i cs r h1 h2
      split at h
      · cases h; simp [storedAll_len h2]
      · cases h
    · cases h
theorem op_bslice {t e : TypeId} {k len : Nat} {ps : Array (Nat × Operand)} {xs : List AX} {rs : List (List AV)} {i : TypeInfo} {z : Value} (ho : o.op = .buildSlice t len ps) (hu : P.underlying t = some (.slice e)) (hi : P.info? e = some i) (hiz : i.zero = some z)
    (hzs : z.cells.size = k) (hik : i.size = k) (hle : len * k ≤ 2 ^ 24) (hk0 : 0 < k) (hlen : xs.length = len) (hc : chkRow k 0 ps.toList xs = true) (hs : storedAll k (xs.map s.ev) = some rs)
    (W : WRel F ε s.hp w) (ht : TRel F ε s.tm a.tmps) : OpOk P o a F ε s.hp w (.vec s.hp.length) (s.hp ++ [some (mkRows k rs)]) := by
  have hrl : rs.length = len := by rw [storedAll_len hs]; simpa using hlen
  let zc : Array Value := if len * k = 0 then #[] else z.cells
  let ar0 : Array Value := (Array.range (len * k)).map fun q => zc[q % zc.size]!
  have h0 : ar0.size = len * k := by simp [ar0]
  obtain ⟨ar, e1, e2, e3, e4, e5, e6⟩ := fillRow_rel (ar := ar0) ht hc hs (by rw [hrl, h0]; omega)
  obtain ⟨F', ε', hp, hv⟩ := post_vec W (e := e) (k := k) (B := mkRows k rs) (rs := rs) (ar := ar) (C := rs.length) (fun h => mkRows_rel h) e5 (Nat.le_refl _) (by rw [e2, h0, hrl]; exact Nat.le_refl _)
    (fun p j x hx => by have := e4 p j x hx; simpa using this)
  refine gives_value (w' := { w with heap := w.heap.push (.cells ar e (0, 0)) }) ?_ ⟨F', ε', hp, hv⟩
  simp only [execOp, ho]
  refine run_v ?_
  have hpl : (ps.map fun (x : Nat × Operand) => (x.1, a.eval x.2)).toList = ps.toList.map fun (i, x) => (i, a.eval x) := by simp
  have e1' : Instr.fill (fun i => some (i * k, k)) ((Array.range (len * k)).map fun q => zc[q % zc.size]!) (ps.toList.map fun (i, x) => (i, a.eval x)) = some ar := e1
  simp only [Instr.buildSlice, Sem.run_bind, run_underlying hu, Result.andThen_ok, run_sizeOf hi, hik]
  rw [if_neg (by omega)]
  by_cases h : len * k = 0
  · have hzc : zc = #[] := by simp [zc, h]
    rw [hzc] at e1'
    rw [if_pos h]
    simp only [Sem.run_bind, Sem.run_pure, Result.andThen_ok]
    rw [hpl, e1']
    simp [newRow, hrl]
  · have hzc : zc = z.cells := by simp [zc, h]
    rw [hzc] at e1'
    rw [if_neg h]
    simp only [Sem.run_bind, Sem.run_pure, Result.andThen_ok, run_zeroValue hi hiz]
    rw [hpl, e1']
    simp [newRow, hrl]

/-- A block that nobody names. -/
theorem WRel.garbage {h : Heap} (W : WRel F ε h w) (o : Obj) (ho : plainO o) : Post F ε h w F ε h { w with heap := w.heap.push o } := by
  have hkeep : ∀ b, b < w.heap.size → (w.heap.push o)[b]? = w.heap[b]? := fun b hb => by rw [heap_push, if_neg (by omega)]
  refine ⟨FGrow.refl _ _ _ _, fun _ _ => rfl, Nat.le_refl _, ⟨fun b o' hb => ?_, fun id B hB => ?_, W.sep, W.inj, W.dom⟩, ⟨rfl, rfl, rfl, by simp, fun b hb _ => hkeep b hb, push_fz w ho⟩, OwnSub.refl _ _ _⟩
  · have := W.frz b o' hb
    rw [hkeep b (lt_of_some this)]; exact this
  · obtain ⟨l, h1, h2⟩ := W.blk id B hB
    exact ⟨l, h1, h2.keep fun c hc => hkeep c (W.blk_lt hB h1 hc)⟩
theorem op_bslice0 {t e : TypeId} {k : Nat} {ps : Array (Nat × Operand)} {i : TypeInfo} (ho : o.op = .buildSlice t 0 ps) (hu : P.underlying t = some (.slice e)) (hi : P.info? e = some i) (hps : ps = #[])
    (W : WRel F ε s.hp w) : OpOk P o a F ε s.hp w (.sl0 k) s.hp := by
  subst hps
  refine gives_value (u := .slice (some ⟨w.heap.size, 0, none⟩) 0 0) (w' := { w with heap := w.heap.push (.cells #[] e (0, 0)) }) ?_ ⟨F, ε, W.garbage _ (fun _ _ _ e => by cases e; rfl), .sl0 k _⟩
  simp only [execOp, ho]
  refine run_v ?_
  simp [Instr.buildSlice, run_underlying hu, run_sizeOf hi, Instr.fill, newRow]
  rw [show Array.range 0 = #[] by simp, Array.map_empty]
end
end Go.Ab
