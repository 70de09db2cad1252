/- The rows' statements and the abstract machine: what can be read as data is frozen data of its type. -/
import Derived.Test.YtgjconibaflaaaaGreatDoorAbFun
import Derived.ReadAgain
import Derived.ChangeSame
import Derived.ChangeBears
import Derived.Below
namespace Go.Ab
open Go
set_option linter.unusedVariables false
set_option linter.unusedSimpArgs false

/-- What a cell of plain data is of. -/
inductive FT where
  | bool
  | int (k : IntKind)
  | str
  | sl (l : List FT)
mutual
/-- Is it of that type? -/
def FT.ok : FT → FV → Prop
  | .bool, .bool _ => True
  | .int k, .int k' n => k' = k ∧ (Lit.int k n).wf = true
  | .str, .str s => s.size ≤ maxLen
  | .sl l, .sl k rows => k = l.length ∧ rows.length ≤ maxLen ∧ ∀ r ∈ rows, rowOk l r
  | _, _ => False
def rowOk : List FT → List FV → Prop
  | [], [] => True
  | t :: l, x :: r => t.ok x ∧ rowOk l r
  | _, _ => False
end
/-- The cells of a type of plain data. -/
def flatFs (P : Program) (rec : TypeId → Option (List FT)) : List Field → Nat → Option (List FT)
  | [], _ => some []
  | f :: fs, off => if f.offset = off then match rec f.type with
    | some l => if P.cellsOf f.type = l.length then match flatFs P rec fs (off + l.length) with
      | some r => some (l ++ r)
      | none => none else none
    | none => none else none
def flat (P : Program) : Nat → TypeId → Option (List FT)
  | 0, _ => none
  | n + 1, t => match P.underlying t with
    | some .bool => some [.bool]
    | some (.int k) => some [.int k]
    | some .string => some [.str]
    | some (.slice e) => match flat P n e with
      | some l => if P.cellsOf e = l.length ∧ 0 < l.length then some [.sl l] else none
      | none => none
    | some (.struct fs) => match flatFs P (flat P n) fs.toList 0 with
      | some l => if P.cellsOf t = l.length then some l else none
      | none => none
    | _ => none
theorem rowOk_append : ∀ {l : List FT} {xs : List FV} {l' : List FT} {xs' : List FV}, rowOk l xs → rowOk l' xs' → rowOk (l ++ l') (xs ++ xs')
  | [], [], _, _, _, h => h
  | t :: l, x :: xs, _, _, h, h' => by
    simp only [rowOk, List.cons_append] at h ⊢
    exact ⟨h.1, rowOk_append h.2 h'⟩
  | [], _ :: _, _, _, h, _ => by simp [rowOk] at h
  | _ :: _, [], _, _, h, _ => by simp [rowOk] at h
theorem rowOk_len : ∀ {l : List FT} {xs : List FV}, rowOk l xs → xs.length = l.length
  | [], [], _ => rfl
  | t :: l, x :: xs, h => by
    simp only [rowOk] at h
    simp [rowOk_len h.2]
  | [], _ :: _, h => by simp [rowOk] at h
  | _ :: _, [], h => by simp [rowOk] at h
theorem mapM_get {α β : Type} {f : α → Option β} : ∀ {l : List α} {r : List β}, l.mapM f = some r → r.length = l.length ∧ ∀ (i : Nat) x, l[i]? = some x → ∃ y, f x = some y ∧ r[i]? = some y
  | [], r, h => by
    simp at h; subst h
    exact ⟨rfl, fun i x hx => by simp at hx⟩
  | a :: l, r, h => by
    rw [List.mapM_cons] at h
    simp only [bind, Option.bind_eq_some_iff, pure, Option.some.injEq] at h
    obtain ⟨y, h1, r', h2, rfl⟩ := h
    obtain ⟨h3, h4⟩ := mapM_get h2
    refine ⟨by simp [h3], fun i x hx => ?_⟩
    cases i with
    | zero => simp at hx; subst hx; exact ⟨y, h1, rfl⟩
    | succ i => exact h4 i x (by simpa using hx)
/-- Values that plain data of these types stands for. -/
def Reads (F : Frz) (l : List FT) (cs : List Value) : Prop := cs.length = l.length ∧ ∃ xs, rowOk l xs ∧ ∀ (i : Nat) x u, xs[i]? = some x → cs[i]? = some u → FRel F x u
theorem Reads.append {F : Frz} {l l' : List FT} {cs cs' : List Value} (h : Reads F l cs) (h' : Reads F l' cs') : Reads F (l ++ l') (cs ++ cs') := by
  obtain ⟨h1, xs, h2, h3⟩ := h
  obtain ⟨g1, ys, g2, g3⟩ := h'
  have hx := rowOk_len h2
  refine ⟨by simp [h1, g1], xs ++ ys, rowOk_append h2 g2, fun i x u hi hu => ?_⟩
  rw [List.getElem?_append] at hi hu
  rw [hx, ← h1] at hi
  split at hi
  · rename_i hlt; rw [if_pos hlt] at hu; exact h3 i x u hi hu
  · rename_i hlt; rw [if_neg hlt] at hu; exact g3 _ x u hi hu
section
variable {H : Type} {enc : TypeId × Value → H} {P : Program} {w : World} {sp : Nat → Bool} {held : Bool} {F : Frz}
theorem reads_fields {n : Nat} {rec : TypeId → Option (List FT)} (ih : ∀ t cs d ps l, DataW.trod enc P w 0 sp held n t cs = some (d, ps) → rec t = some l → Reads F l cs) :
    ∀ {fs : List Field} {off : Nat} {l : List FT} {cs : List Value} {r}, flatFs P rec fs off = some l → (fs.mapM fun f => DataW.trod enc P w 0 sp held n f.type ((cs.drop f.offset).take (P.cellsOf f.type))) = some r → cs.length = off + l.length → Reads F l (cs.drop off)
  | [], off, l, cs, r, hl, hr, hlen => by
    simp only [flatFs, Option.some.injEq] at hl
    subst hl
    refine ⟨by simp at hlen ⊢; omega, [], by simp [rowOk], fun i x u hi => by simp at hi⟩
  | f :: fs, off, l, cs, r, hl, hr, hlen => by
    simp only [flatFs] at hl
    split at hl <;> first | (cases hl; done) | skip
    rename_i ho
    split at hl <;> first | (cases hl; done) | skip
    rename_i l1 h1
    split at hl <;> first | (cases hl; done) | skip
    rename_i hc
    split at hl <;> first | (cases hl; done) | skip
    rename_i l2 h2
    simp only [Option.some.injEq] at hl
    subst hl
    rw [List.mapM_cons] at hr
    simp only [bind, Option.bind_eq_some_iff, pure, Option.some.injEq] at hr
    obtain ⟨y, e1, r', e2, rfl⟩ := hr
    rw [ho, hc] at e1
    have a := ih _ _ y.1 y.2 l1 e1 h1
    have b := reads_fields ih h2 e2 (by simp at hlen ⊢; omega)
    have e : cs.drop off = (cs.drop off).take l1.length ++ cs.drop (off + l1.length) := by
      rw [← List.drop_drop, List.take_append_drop]
    rw [e]
    exact a.append b
theorem reads (hF : ∀ b o, w.heap[b]? = some o → F b = some o) : ∀ (n m : Nat) (t : TypeId) (cs : List Value) (d : DataW H) (ps : List MemPlace) (l : List FT),
    DataW.trod enc P w 0 sp held n t cs = some (d, ps) → flat P m t = some l → Reads F l cs := by
  intro n
  induction n with
  | zero => intro m t cs d ps l h; simp [DataW.trod] at h
  | succ n ih =>
    intro m t cs d ps l h hf
    cases m with
    | zero => simp [flat] at hf
    | succ m =>
      simp only [flat] at hf
      split at hf <;> first | (cases hf; done) | skip
      · rename_i hu
        cases hf
        simp only [DataW.trod, hu] at h
        split at h <;> first | (cases h; done) | (rename_i he; cases he; done) | skip
        rename_i b he
        exact ⟨rfl, [.bool b], by simp [rowOk, FT.ok], fun i x u hi hu => by
          cases i with
          | zero => simp at hi hu; subst hi; subst hu; exact .bool b
          | succ i => simp at hi⟩
      · rename_i k hu
        cases hf
        simp only [DataW.trod, hu] at h
        split at h <;> first | (cases h; done) | (rename_i he; cases he; done) | skip
        rename_i k'' k' z he
        cases he
        split at h <;> first | (cases h; done) | skip
        rename_i hw
        obtain ⟨rfl, hw⟩ := hw
        exact ⟨rfl, [.int k' z], by simp [rowOk, FT.ok, hw], fun i x u hi hu => by
          cases i with
          | zero => simp at hi hu; subst hi; subst hu; exact .int _ _
          | succ i => simp at hi⟩
      · rename_i hu
        cases hf
        simp only [DataW.trod, hu] at h
        split at h <;> first | (cases h; done) | (rename_i he; cases he; done) | skip
        rename_i s he
        split at h <;> first | (cases h; done) | skip
        rename_i hw
        exact ⟨rfl, [.str s], by simp [rowOk, FT.ok, hw], fun i x u hi hu => by
          cases i with
          | zero => simp at hi hu; subst hi; subst hu; exact .str _
          | succ i => simp at hi⟩
      · rename_i e hu
        split at hf <;> first | (cases hf; done) | skip
        rename_i le hle
        split at hf <;> first | (cases hf; done) | skip
        rename_i hc
        cases hf
        obtain ⟨hc, hpos⟩ := hc
        simp only [DataW.trod, hu] at h
        split at h <;> first | (cases h; done) | (rename_i he; cases he; done) | skip
        · exact ⟨rfl, [.sl le.length []], by simp [rowOk, FT.ok], fun i x u hi hu => by
            cases i with
            | zero => simp at hi hu; subst hi; subst hu; exact .sl0 _ _ _
            | succ i => simp at hi⟩
        · rename_i e' a len cap he'
          cases he'
          split at h <;> first | (cases h; done) | skip
          rename_i hcond
          obtain ⟨_, hlc, hcm⟩ := hcond
          simp only [Option.bind_eq_some_iff] at h
          obtain ⟨elems, he, _⟩ := h
          obtain ⟨hl1, hl2⟩ := mapM_get he
          have each : ∀ i, i < len → ∃ csi, w.cells? 0 (a.add (i * le.length)) le.length = some csi ∧ Reads F le csi := by
            intro i hi
            obtain ⟨y, hy, _⟩ := hl2 i i (by simp [hi])
            simp only [Option.bind_eq_some_iff] at hy
            obtain ⟨csi, h1, h2⟩ := hy
            rw [hc] at h1
            exact ⟨csi, h1, ih m e csi y.1 y.2 le h2 hle⟩
          by_cases h0 : len = 0
          · subst h0
            exact ⟨rfl, [.sl le.length []], by simp [rowOk, FT.ok], fun i x u hi hu => by
              cases i with
              | zero => simp at hi hu; subst hi; subst hu; exact .sl0 _ _ _
              | succ i => simp at hi⟩
          · -- where the cells lie
            obtain ⟨cs0, c01, _⟩ := each 0 (by omega)
            have cellOf : ∀ i csi, w.cells? 0 (a.add (i * le.length)) le.length = some csi → csi.length = le.length ∧ ∀ j, j < le.length → ∃ u, csi[j]? = some u ∧ w.cell? ((a.add (i * le.length)).add j) = some u := by
              intro i csi hcs
              unfold World.cells? at hcs
              rw [if_pos (Nat.zero_le _)] at hcs
              obtain ⟨q1, q2⟩ := mapM_get hcs
              refine ⟨by simpa using q1, fun j hj => ?_⟩
              obtain ⟨y, y1, y2⟩ := q2 j j (by simp [hj])
              exact ⟨y, y2, y1⟩
            obtain ⟨_, c02⟩ := cellOf 0 cs0 c01
            obtain ⟨u0, _, u02⟩ := c02 0 hpos
            obtain ⟨b, off, spot⟩ := a
            have hcell : ∃ arr et fr, w.heap[b]? = some (.cells arr et fr) ∧ spot = none := by
              have e0 : ((⟨b, off, spot⟩ : Addr).add (0 * le.length)).add 0 = ⟨b, off, spot⟩ := by simp [Addr.add]
              rw [e0] at u02
              unfold World.cell? at u02
              split at u02
              · rename_i arr et fr hh
                cases spot with
                | none => exact ⟨arr, et, fr, hh, rfl⟩
                | some s => simp at u02
              · cases u02
            obtain ⟨arr, et, fr, hh, rfl⟩ := hcell
            have hat : ∀ i j u, w.cell? (((⟨b, off, none⟩ : Addr).add (i * le.length)).add j) = some u → arr[off + i * le.length + j]? = some u := by
              intro i j u h
              rw [add_eq, add_eq] at h
              unfold World.cell? at h
              simpa [hh] using h
            classical
            let row : Nat → List FV := fun i => if hi : i < len then (each i hi).choose_spec.2.2.choose else []
            have hrow : ∀ i, i < len → rowOk le (row i) ∧ ∀ j x, (row i)[j]? = some x → ∃ u, arr[off + i * le.length + j]? = some u ∧ FRel F x u := by
              intro i hi
              have hr : row i = (each i hi).choose_spec.2.2.choose := by simp only [row]; rw [dif_pos hi]
              have hs := (each i hi).choose_spec.2.2.choose_spec
              have hcs := (each i hi).choose_spec.1
              rw [hr]
              refine ⟨hs.1, fun j x hx => ?_⟩
              obtain ⟨q1, q2⟩ := cellOf i _ hcs
              have hj : j < le.length := by rw [← rowOk_len hs.1]; exact (List.getElem?_eq_some_iff.1 hx).1
              obtain ⟨u, v1, v2⟩ := q2 j hj
              exact ⟨u, hat i j u v2, hs.2 j x u hx v1⟩
            have hlen : ((List.range len).map row).length = len := by simp
            have hget : ∀ i j x, at2 ((List.range len).map row) i j = some x → i < len ∧ (row i)[j]? = some x := by
              intro i j x hx
              unfold at2 at hx
              rw [List.getElem?_map] at hx
              rcases Nat.lt_or_ge i len with hi | hi
              · rw [List.getElem?_range hi] at hx
                exact ⟨hi, hx⟩
              · rw [List.getElem?_eq_none (by simp [hi])] at hx
                simp at hx
            refine ⟨rfl, [.sl le.length ((List.range len).map row)], ?_, fun i x u hi hu => ?_⟩
            · simp only [rowOk, FT.ok, and_true, true_and, hlen]
              refine ⟨by omega, fun r hr => ?_⟩
              obtain ⟨i, hi, rfl⟩ := List.mem_map.1 hr
              exact (hrow i (by simpa using hi)).1
            · cases i with
              | succ i => simp at hi
              | zero =>
                simp at hi hu; subst hi; subst hu
                have := FRel.sl (F := F) le.length ((List.range len).map row) b off cap arr et fr (fun i j => (arr[off + i * le.length + j]?).getD default) (hF b _ hh)
                  (fun r hr => by
                    obtain ⟨i, hi, rfl⟩ := List.mem_map.1 hr
                    exact rowOk_len (hrow i (by simpa using hi)).1)
                  (fun i j x hx => by
                    obtain ⟨hi, hx'⟩ := hget i j x hx
                    obtain ⟨u, u1, _⟩ := (hrow i hi).2 j x hx'
                    rw [u1]; rfl)
                  (fun i j x hx => by
                    obtain ⟨hi, hx'⟩ := hget i j x hx
                    obtain ⟨u, u1, u2⟩ := (hrow i hi).2 j x hx'
                    rw [u1]; exact u2) (by rw [hlen]; exact hlc)
                rw [hlen] at this
                exact this
      · rename_i fs hu
        split at hf <;> first | (cases hf; done) | skip
        rename_i l' hl'
        split at hf <;> first | (cases hf; done) | skip
        rename_i hc
        cases hf
        simp only [DataW.trod, hu] at h
        split at h <;> first | (cases h; done) | skip
        rename_i hlen
        simp only [Option.map_eq_some_iff] at h
        obtain ⟨r, hr, _⟩ := h
        have := reads_fields (fun t cs d ps l h1 h2 => ih m t cs d ps l h1 h2) hl' hr (by rw [hlen, hc, Nat.zero_add])
        simpa using this

/-- An argument of one cell. -/
theorem open_one {m : Nat} {t : TypeId} {v : Value} {d : DataW H} {ps : List MemPlace} {ft : FT} {r : Reach} {b0 : Nat} (hns : (match P.underlying t with | some (.struct _) => false | some (.array _ _) => false | some (.interface _) => false | some _ => true | none => false) = true)
    (hval : Value.okWide P w r b0 t v) (hd : DataW.Trod enc P w 0 sp held t v d ps) (hf : flat P m t = some [ft]) (hF : ∀ b o, w.heap[b]? = some o → F b = some o) : ∃ x, ft.ok x ∧ FRel F x v := by
  obtain ⟨n, hn⟩ := hd
  obtain ⟨h1, xs, h2, h3⟩ := reads hF n m t v.cells.toList d ps [ft] hn hf
  have hx := rowOk_len h2
  match xs, hx with
  | [x], _ =>
    simp only [rowOk, and_true] at h2
    refine ⟨x, h2, ?_⟩
    cases v with
    | agg cs =>
      exfalso
      unfold flat at hf
      cases m with
      | zero => cases hf
      | succ m =>
        simp only at hf
        unfold Value.okWide at hval
        split at hf <;> first | (cases hf; done) | skip
        all_goals (rename_i hu; rw [hu] at hval hns; simp [Cell.okWide, Cell.ok, hu] at hval hns)
    | _ => exact h3 0 x _ rfl (by simp [Value.cells])
theorem calls_of {f : FuncId} {us : Array Value} {ε : Env} {h h' : Heap} {v : AV} (hc : Callable P f) (ha : Answers P f us F ε h w v h') : Calls P f us w fun e w' => ∃ u, e = .returned u ∧ ∃ F' ε', Post F ε h w F' ε' h' w' ∧ VRel F' ε' v u := by
  rcases ha with ⟨_, h⟩ | ⟨u, w', h, _⟩
  · exact h
  · rw [run_callFunc hc us] at h
    cases h
/-- The world at the call: all of it frozen, nothing one's own. -/
theorem start_rel (w : World) : WRel (fun b => w.heap[b]?) (fun _ => none) [] w :=
  ⟨fun b o h => h, fun id B h => by simp [Heap.at] at h, fun id B l c h => by simp [Heap.at] at h, fun id id' B B' l l' c h => by simp [Heap.at] at h, fun _ _ => rfl⟩
/-- A law that answers true. -/
theorem law_calls {T : FuncId → Option Entry} (hS : Sound P (XC T)) {f : FuncId} (hc : Callable P f) {args : List AV} (hX : XC T f args [] = some (.f (.bool true), [])) {us : Array Value} (ha : LRel (fun b => w.heap[b]?) (fun _ => none) args us.toList) :
    Calls P f us w fun e w' => e = .returned (.bool true) ∧ RowKit.Below w.heap.size w w' ∧ ∀ a, w'.frozen? a = w.frozen? a := by
  have h := hS f args [] _ _ hX _ _ w us.toList (start_rel w) ha
  rw [Array.toArray_toList] at h
  refine Calls.mono' (calls_of hc h) ?_
  rintro e w' ⟨u, rfl, F', ε', p, q⟩
  refine ⟨?_, ⟨p.fr.os, p.fr.tape, p.fr.output, p.fr.size, fun k hk => p.fr.keep k hk (fun ⟨id, B, l, q, _⟩ => by simp [Heap.at] at q)⟩, p.fr.fz⟩
  cases q with
  | f h => cases h; rfl

/-! ### A law's row -/
theorem Fr.below {ε : Env} {w w' : World} (h : Fr ε [] w w') : RowKit.Below w.heap.size w w' :=
  ⟨h.os, h.tape, h.output, h.size, fun k hk => h.keep k hk (fun ⟨id, B, l, q, _⟩ => by simp [Heap.at] at q)⟩
theorem trodAll_carry {w' : World} (hs : ∀ p : MemPlace, p.block < w.heap.size → w.sameAt w' p) : ∀ {ts : List TypeId} {vs : List Value} {ds : List (DataW H)} {ps : List MemPlace},
    DataW.TrodAll enc P w 0 sp held ts vs ds ps → (∀ p ∈ ps, p.block < w.heap.size) → DataW.TrodAll enc P w' 0 sp held ts vs ds ps
  | [], [], [], ps, h, _ => h
  | t :: ts, v :: vs, d :: ds, ps, ⟨p, q, ⟨n, h1⟩, h2, e⟩, hl =>
    ⟨p, q, ⟨n, DataW.trod_carry n t _ (d, p) h1 (fun x hx => hs x (hl x (by rw [e]; exact List.mem_append_left _ hx)))⟩, trodAll_carry hs h2 (fun x hx => hl x (by rw [e]; exact List.mem_append_right _ hx)), e⟩
/-- A law that answers true, and leaves all as it was: what its row says behind the call. -/
theorem law_post {f : Func} {s : ChangeSpec} {apart fresh handsOn again : Bool} {W W' : World} {args : Array Value} {ds gs : List (DataW H)} {before : List MemPlace} {tb : TypeId}
    (hl : laidOutB P = true) (hm : mapsRowed P = true) (hz : ((List.range P.types.size).all fun t => match P.underlying t with | some (.slice e) => decide (0 < P.cellsOf e) | _ => true) = true)
    (hts : f.params.toList.all (fun t => decide (t < P.types.size)) = true) (hrt : f.resultTypes = #[tb]) (htb : P.underlying tb = some .bool) (hvars : s.vars = [])
    (hW : DataW.Whole enc P f.params.toList s.vars apart W args.toList ds gs before) (hfn : s.fn H (ds ++ gs) = { results := [.lit (.bool true)], args := ds })
    (hB : RowKit.Below W.heap.size W W') (hfz : ∀ a, W'.frozen? a = W.frozen? a) :
    s.post enc P f apart fresh handsOn again W args (.bool true) W' := by
  have hW' := hW
  obtain ⟨p, q, hA, hV, rfl, hnf, hnd⟩ := hW
  rw [hvars] at hV
  have hq : q = [] := by
    cases gs with
    | nil => exact hV
    | cons => exact hV.elim
  subst hq
  have hlt : ∀ x ∈ p, x.block < W.heap.size := hA.lt
  have hsame : ∀ x : MemPlace, x.block < W.heap.size → W.sameAt W' x := fun x hx => hB.same hx
  refine ChangeShapes.post_of_same (pa := p) (pv := []) hW' (fun b sp hd => ?_) (fun sp hsp => ?_) (fun sp hsp => ?_) (by simp) (hB.frame _) hfz (RowKit.ok_one hrt rfl (RowKit.okWide_bool_mk htb _))
  · rw [hfn, hrt]
    refine ⟨[], [], ⟨1, ?_⟩, rfl, rfl⟩
    simp [DataW.trod, htb, Value.cells]
  · rw [hfn]
    refine trodAll_carry hsame (DataW.TrodAll.respare (kids_rows hl hm) (slices_full_of P hz) (fun t ht => ?_) hA (fun x hx => hsp x (by simpa using hx))) hlt
    have := List.all_eq_true.1 hts t ht
    simpa using this
  · rw [hfn, hvars]; rfl
end
end Go.Ab
