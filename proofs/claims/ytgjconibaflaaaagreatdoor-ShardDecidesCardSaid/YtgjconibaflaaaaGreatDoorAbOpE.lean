/- One operation: those that are done as calls are, with the blocks that they are lent. -/
import Derived.Test.YtgjconibaflaaaaGreatDoorAbCall
import Derived.Laws.StructEq
import Derived.ChangeKeysEq
namespace Go.Ab
open Go
set_option linter.unusedVariables false
set_option linter.unusedSimpArgs false

/-- What an operation that is done so comes to. -/
def Ran (P : Program) (sem : Array Value → Sem Next) (us : Array Value) (w : World) (R : Value → World → Prop) : Prop :=
  (∃ u w', (sem us).run P w = .ok (.value u) w' ∧ R u w') ∨ ∃ w', (sem us).run P w = .ok .skip w' ∧ R undef w'
theorem Ran.mono {P : Program} {sem : Array Value → Sem Next} {us : Array Value} {w : World} {R R' : Value → World → Prop} (h : Ran P sem us w R) (g : ∀ u w', R u w' → R' u w') : Ran P sem us w R' := by
  rcases h with ⟨u, w', a, b⟩ | ⟨w', a, b⟩
  · exact .inl ⟨u, w', a, g _ _ b⟩
  · exact .inr ⟨w', a, g _ _ b⟩
def SemOk (P : Program) (p : PK) (sem : Array Value → Sem Next) : Prop :=
  ∀ args h v h', primE p args h = some (v, h') → ∀ F ε w us, WRel F ε h w → LRel F ε args us → Ran P sem us.toArray w fun u w' => ∃ F' ε', Post F ε h w F' ε' h' w' ∧ VRel F' ε' v u
section
variable {P : Program} {X : CallSem} {F : Frz} {ε : Env} {w : World} {s s' : St} {a : Act} {o : Oper} {v : AV}
theorem ok_of_sem {p : PK} {sem : Array Value → Sem Next} (hs : SemOk P p sem) {xs : List AX} {os : List Operand} (hx : chkXs os xs = true) (he : execOp a.eval o = sem (os.map a.eval).toArray)
    (hr : opE X (.prim p xs) s = some (v, s')) (W : WRel F ε s.hp w) (ht : TRel F ε s.tm a.tmps) : OpOk P o a F ε s.hp w v s'.hp := by
  simp only [opE] at hr
  split at hr
  · rename_i v' h' hc
    cases hr
    have := callA_gen (X := fun _ => primE p) (f := 0) (D := Ran P sem) (fun h g => Ran.mono h g) (fun args h v h' hr => hs args h v h' hr) hc W (evs_rel hx ht)
    rcases this with ⟨u, w', h1, h2⟩ | ⟨w', h1, h2⟩
    · exact gives_value (by rw [he]; exact h1) h2
    · exact gives_skip (by rw [he]; exact h1) h2
  · cases hr

theorem any_some' {α : Type} {x : Option α} {p : α → Bool} (h : x.any p = true) : ∃ y, x = some y ∧ p y = true := by
  cases x with
  | none => cases h
  | some y => exact ⟨y, rfl, h⟩
/-! ### Strings, rune by rune -/
theorem sem_range {t : TypeId} (hu : P.underlying t = some .string) : SemOk P .range (fun us => do pure (.value (← Instr.range t (us.getD 0 undef)))) := by
  intro args h v h' hp F ε w us W ha
  simp only [primE] at hp
  unfold rangeE at hp
  split at hp <;> first | (cases hp; done) | skip
  rename_i t'
  simp only [Option.some.injEq, Prod.mk.injEq] at hp
  obtain ⟨rfl, rfl⟩ := hp
  obtain ⟨u, us', rfl, hu1, hn⟩ := ha.cons_inv
  have := hn.nil_inv; subst this
  have hue : u = .string t' := by
    cases hu1 with
    | f hf => cases hf; rfl
  subst hue
  obtain ⟨δ, h1, h2, h3, h4, h5, h6⟩ := W.push (.iter t' 0) (.stringIter t' 0) ⟨some w.heap.size, 0, 0, 0, 0⟩ rfl (fun δ _ => ⟨w.heap.size, rfl, rfl, rfl, by simp⟩)
  refine .inl ⟨.pointer (some ⟨w.heap.size, 0, none⟩), { w with heap := w.heap.push (.stringIter t' 0) }, ?_, F, δ, ⟨FGrow.refl _ _ _ _, h3, by simp, h4, h5, h6⟩, .ptr (l := ⟨some w.heap.size, 0, 0, 0, 0⟩) 0 0 h2 rfl⟩
  refine run_v ?_
  simp [Instr.range, run_underlying hu]
theorem sem_next {ty : TypeId} : SemOk P .next (fun us => do pure (.value (← Instr.next (us.getD 0 undef) true ty))) := by
  intro args h v h' hp F ε w us W ha
  simp only [primE] at hp
  unfold nextE at hp
  split at hp <;> first | (cases hp; done) | skip
  rename_i id
  split at hp <;> first | (cases hp; done) | skip
  rename_i t' p hat
  obtain ⟨u, us', rfl, hu1, hn⟩ := ha.cons_inv
  have := hn.nil_inv; subst this
  cases hu1 with
  | ptr _ _ he hc =>
    rename_i c l
    obtain ⟨l', e1, c', q1, q2, q3, q4⟩ := W.blk id _ hat
    rw [he] at e1; cases e1
    rw [hc] at q1; cases q1
    have hget : (getObj c).run P w = .ok (.stringIter t' p) w := by simp only [getObj, Sem.run, q4]
    split at hp
    · rename_i hlt
      simp only [Option.some.injEq, Prod.mk.injEq] at hp
      obtain ⟨rfl, rfl⟩ := hp
      obtain ⟨W1, F1, O1⟩ := W.upd (B' := .iter t' (p + (Utf8.decode t' p).2)) (o := .stringIter t' (p + (Utf8.decode t' p).2)) hat he hc ⟨c, hc, q2, q3, by rw [setB_get, if_pos ⟨rfl, lt_of_some q4⟩]⟩
      refine .inl ⟨.tuple #[.bool true, goInt p, .int .i32 (Utf8.decode t' p).1], _, ?_, F, ε, ⟨FGrow.refl _ _ _ _, fun _ _ => rfl, by simp, W1, F1, O1⟩, mk_tup (LRel.cons (.f (.bool true)) (LRel.cons (.f (.int _ _)) (LRel.cons (.f (.int _ _)) (LRel.nil _ _))))⟩
      refine run_v ?_
      have hset : (setObj c (.stringIter t' (p + (Utf8.decode t' p).2))).run P w = .ok () (setB w c (.stringIter t' (p + (Utf8.decode t' p).2))) := by
        simp [setObj, Sem.run, setB, q4]
      simp [Instr.next, q2, q3, hget, hlt, hset]
    · rename_i hlt
      simp only [Option.some.injEq, Prod.mk.injEq] at hp
      obtain ⟨rfl, rfl⟩ := hp
      refine .inl ⟨.tuple #[.bool false], w, ?_, F, ε, .refl W, mk_tup (LRel.cons (.f (.bool false)) (LRel.nil _ _))⟩
      refine run_v ?_
      simp [Instr.next, q2, q3, hget, hlt]

/-! ### Rows of plain fields -/
theorem part_basic {t : TypeId} {k : KT} (h : ktOk P t k = true) {us : Array Value} {i : Nat} {v : Value} (hv : us[i]? = some v) : (part t us i).run P w = .ok v w := by
  unfold ktOk at h
  refine run_part_plain w ?_ hv
  unfold Program.plainKey
  split at h <;> simp_all
theorem eq_basic {d : Nat} {t : TypeId} {k : KT} (h : ktOk P t k = true) {x y : FV} {u v : Value} (hx : FRel F x u) (hy : FRel F y v) (hk : k.ok x y = true) : (Op.equalIn (d + 1) t u v).run P w = .ok (x.same y) w := by
  unfold ktOk at h
  split at h <;> first | (cases h; done) | skip
  · rename_i hu
    cases hx <;> cases hy <;> simp [KT.ok] at hk
    subst hk
    rw [run_equalIn_int w d t _ _ _ _ hu]
    simp [FV.same]
    rfl
  · rename_i hu
    cases hx <;> cases hy <;> simp [KT.ok] at hk
    simp only [Op.equalIn, Sem.run_bind, run_underlying hu, Result.andThen_ok, Sem.run_pure, FV.same, beq_bytes]
  · rename_i hu
    cases hx <;> cases hy <;> simp [KT.ok] at hk
    simp only [Op.equalIn, Sem.run_bind, run_underlying hu, Result.andThen_ok, Sem.run_pure, FV.same]
/-- Values of a row's fields. -/
def FsRel (F : Frz) (xs : List FV) (us : Array Value) : Prop := us.size = xs.length ∧ ∀ (i : Nat) x y, xs[i]? = some x → us[i]? = some y → FRel F x y
theorem eq_fields {d : Nat} {us vs : Array Value} : ∀ {fs : List Field} {l : List KT} {i : Nat} {xs ys : List FV}, rowFs P fs l i = true → kinL l xs ys = true →
    (∀ (j : Nat) x, xs[j]? = some x → ∃ y, us[i + j]? = some y ∧ FRel F x y) → (∀ (j : Nat) x, ys[j]? = some x → ∃ y, vs[i + j]? = some y ∧ FRel F x y) → (Op.eqFields (d + 1) us vs fs).run P w = .ok (samesL xs ys) w
  | [], l, i, xs, ys, hr, hk, hu, hv => by
    cases l with
    | cons => cases hr
    | nil =>
      cases xs <;> cases ys <;> first | (cases hk; done) | skip
      simp [Op.eqFields, samesL]
  | f :: fs, l, i, xs, ys, hr, hk, hu, hv => by
    cases l with
    | nil => cases hr
    | cons k l =>
      simp only [rowFs, Bool.and_eq_true, decide_eq_true_eq, beq_iff_eq] at hr
      obtain ⟨⟨⟨h1, h2⟩, h3⟩, h4⟩ := hr
      cases xs with
      | nil => cases hk
      | cons x xs =>
        cases ys with
        | nil => cases hk
        | cons y ys =>
          simp only [kinL, Bool.and_eq_true] at hk
          obtain ⟨u, u1, u2⟩ := hu 0 x rfl
          obtain ⟨v, v1, v2⟩ := hv 0 y rfl
          rw [Nat.add_zero] at u1 v1
          have ih := eq_fields (d := d) (us := us) (vs := vs) h4 hk.2 (fun j z hz => by
            obtain ⟨q, q1, q2⟩ := hu (j + 1) z (by simpa using hz)
            exact ⟨q, by rw [show i + 1 + j = i + (j + 1) by omega]; exact q1, q2⟩) (fun j z hz => by
            obtain ⟨q, q1, q2⟩ := hv (j + 1) z (by simpa using hz)
            exact ⟨q, by rw [show i + 1 + j = i + (j + 1) by omega]; exact q1, q2⟩)
          simp only [Op.eqFields, h1, ne_eq, not_false_eq_true, if_true, Sem.run_bind, h2, part_basic h3 u1, part_basic h3 v1, Result.andThen_ok, eq_basic h3 u2 v2 hk.1, samesL]
          cases x.same y
          · simp
          · simpa using ih
theorem toFs_fs {as : List AV} {xs : List FV} (h : toFs as = some xs) {us : Array Value} (hu : us.size = as.length) (hv : ∀ (i : Nat) v u, as[i]? = some v → us[i]? = some u → VRel F ε v u) : ∀ (j : Nat) x, xs[j]? = some x → ∃ y, us[j]? = some y ∧ FRel F x y := by
  have hl := toFs_length h
  intro j x hx
  have hj : j < as.length := by rw [← hl]; exact (List.getElem?_eq_some_iff.1 hx).1
  have hu' : us[j]? = some us[j] := by simp [hu, hj]
  have := toFs_rel h (us := us.toList) ⟨by rw [Array.length_toList]; exact hu, fun i v u a b => hv i v u a (by simpa using b)⟩
  have := this.2 j (.f x) us[j] (by simp [hx]) (by simp [hu, hj])
  refine ⟨_, hu', by cases this with | f h => exact h⟩
theorem row_eq {t : TypeId} {l : List KT} (h : rowTy P t l = true) {xs ys : List FV} (hk : kinL l xs ys = true) {us vs : Array Value} (hu : ∀ (j : Nat) x, xs[j]? = some x → ∃ y, us[j]? = some y ∧ FRel F x y) (hv : ∀ (j : Nat) x, ys[j]? = some x → ∃ y, vs[j]? = some y ∧ FRel F x y) :
    (Op.equalIn 10000 t (.agg us) (.agg vs)).run P w = .ok (samesL xs ys) w ∧ P.eqGuardType P.depth t = false := by
  unfold rowTy at h
  split at h
  · rename_i fs hfs
    simp only [Bool.and_eq_true, decide_eq_true_eq, Bool.not_eq_true'] at h
    obtain ⟨⟨⟨h1, h2⟩, h3⟩, h4⟩ := h
    refine ⟨?_, h4⟩
    have hf : P.fieldsOf t = fs := by unfold Program.fieldsOf; rw [hfs]
    rw [show (10000 : Nat) = 9999 + 1 from rfl, run_equalIn_struct w 9999 t us vs (by rw [hf]; exact hfs) h3, hf]
    exact eq_fields (d := 9998) (i := 0) h2 hk (by simpa using hu) (by simpa using hv)
  · cases h
theorem sem_eqs {o : BinOp} {t : TypeId} {x y : Operand} {neg : Bool} {l : List KT} (ho : o = if neg then .neq else .eql) (hrow : rowTy P t l = true) : SemOk P (.eqs neg l) (fun us => do pure (.value (← (do eqGuard o t x y (us.getD 0 undef) (us.getD 1 undef); binOp o t (us.getD 0 undef) (us.getD 1 undef))))) := by
  intro args h v h' hp F ε w us W ha
  simp only [primE] at hp
  unfold eqsE at hp
  split at hp <;> first | (cases hp; done) | skip
  rename_i as bs
  split at hp <;> first | (cases hp; done) | skip
  rename_i xs ys h1 h2
  split at hp <;> first | (cases hp; done) | skip
  rename_i hk
  simp only [Option.some.injEq, Prod.mk.injEq] at hp
  obtain ⟨rfl, rfl⟩ := hp
  obtain ⟨u, us', rfl, hu1, hn⟩ := ha.cons_inv
  obtain ⟨u2, us'', rfl, hu2, hn⟩ := hn.cons_inv
  have := hn.nil_inv; subst this
  cases hu1 with
  | agg a1 a2 =>
    cases hu2 with
    | agg b1 b2 =>
      rename_i us1 vs1
      obtain ⟨e1, e2⟩ := row_eq (w := w) hrow hk (toFs_fs h1 a1 a2) (toFs_fs h2 b1 b2)
      refine .inl ⟨.bool (samesL xs ys != neg), w, ?_, F, ε, .refl W, .f (.bool _)⟩
      refine run_v ?_
      subst ho
      cases neg
      · simp [run_eqGuard_agg w _ t x y us1 vs1 e2, run_eql_struct, e1]
      · simp [run_eqGuard_agg w _ t x y us1 vs1 e2, run_neq_struct, e1]

/-! ### Entries of maps -/
theorem findI_at {str : Bool} {d : TypeDesc} (hd : kindOk str d) {x : FV} {u : Value} (hx : FRel F x u) : ∀ {es : List (List FV × AV)} {ms : List MapEntry} (j : Nat), ERel F ε es ms → kins str [x] es = true →
    (∃ i e m, es[i]? = some e ∧ ms[i]? = some m ∧ samesL [x] e.1 = true ∧ findI [x] es j = some (j + i, e.2) ∧ Instr.findNow d u ms j = some (some (j + i, m.val))) ∨
    (findI [x] es j = none ∧ Instr.findNow d u ms j = some none)
  | [], ms, j, h, hk => by
    have : ms = [] := List.eq_nil_of_length_eq_zero (by simpa using h.1)
    subst this
    exact .inr ⟨rfl, rfl⟩
  | e :: es, ms, j, h, hk => by
    cases ms with
    | nil => have := h.1; simp at this
    | cons m ms =>
      obtain ⟨hy2, hv, ht⟩ := h.tail
      obtain ⟨k1, k2⟩ := kins_tail hk
      obtain ⟨ek, ev⟩ := e
      obtain ⟨_, y, _, hy1⟩ := kin_one k1
      simp only at hy1; subst hy1
      replace hy2 := hy2.one
      have hs := same_now hd hx hy2 k1
      cases hb : samesL [x] [y] with
      | true =>
        rw [hb] at hs
        exact .inl ⟨0, _, m, rfl, rfl, hb, by simp [findI, hb], by simp [Instr.findNow, hs]⟩
      | false =>
        rw [hb] at hs
        rcases findI_at hd hx (j + 1) ht k2 with ⟨i, e', m', h1, h2, h3, h4, h5⟩ | ⟨h1, h2⟩
        · exact .inl ⟨i + 1, e', m', by simpa using h1, by simpa using h2, h3, by simp [findI, hb, h4]; omega, by simp [Instr.findNow, hs, h5]; omega⟩
        · exact .inr ⟨by simp [findI, hb, h1], by simp [Instr.findNow, hs, h2]⟩
theorem forIn_ok {α : Type} {body : α → PUnit → Sem (ForInStep PUnit)} : ∀ {fs : List α}, (∀ f ∈ fs, (body f PUnit.unit).run P w = .ok (.yield PUnit.unit) w) → (forIn fs PUnit.unit body).run P w = .ok PUnit.unit w
  | [], _ => by simp
  | f :: fs, h => by
    simp only [List.forIn_cons, Sem.run_bind, h f (by simp), Result.andThen_ok]
    exact forIn_ok fun g hg => h g (by simp [hg])
theorem rowFs_mem : ∀ {fs : List Field} {l : List KT} {i : Nat}, rowFs P fs l i = true → ∀ f ∈ fs, f.name ≠ "_" ∧ ∃ j k, f.offset = i + j ∧ j < l.length ∧ ktOk P f.type k = true
  | [], l, i, hr, f, hf => by cases hf
  | g :: fs, l, i, hr, f, hf => by
    cases l with
    | nil => cases hr
    | cons k l =>
      simp only [rowFs, Bool.and_eq_true, decide_eq_true_eq, beq_iff_eq] at hr
      obtain ⟨⟨⟨h1, h2⟩, h3⟩, h4⟩ := hr
      rcases List.mem_cons.1 hf with rfl | hf
      · exact ⟨h1, 0, k, by simpa using h2, by simp, h3⟩
      · obtain ⟨q1, j, k', q2, q3, q4⟩ := rowFs_mem h4 f hf
        exact ⟨q1, j + 1, k', by omega, by simp; omega, q4⟩
theorem check_basic {b : Bool} {n : Nat} {t : TypeId} {k : KT} (h3 : ktOk P t k = true) (y : Value) : (Instr.checkKey b (n + 1) t y).run P w = .ok () w := by
  unfold ktOk at h3
  unfold Instr.checkKey
  split at h3 <;> first | (cases h3; done) | skip
  all_goals (rename_i hu'; simp only [Sem.run_bind, run_underlying hu', Result.andThen_ok]; rfl)
theorem kinL_len : ∀ {l : List KT} {xs ys : List FV}, kinL l xs ys = true → xs.length = l.length ∧ ys.length = l.length
  | [], [], [], _ => ⟨rfl, rfl⟩
  | _ :: l, _ :: xs, _ :: ys, h => by
    simp only [kinL, Bool.and_eq_true] at h
    have := kinL_len h.2
    simp [this.1, this.2]
  | [], _ :: _, _, h => by cases h
  | [], [], _ :: _, h => by cases h
  | _ :: _, [], _, h => by cases h
  | _ :: _, _ :: _, [], h => by cases h
theorem KRel.many {key : List FV} {u : Value} (h : KRel F key u) (hl : 2 ≤ key.length) : ∃ us : Array Value, u = .agg us ∧ ∀ (j : Nat) x, key[j]? = some x → ∃ y, us[j]? = some y ∧ FRel F x y := by
  unfold KRel at h
  split at h
  · simp at hl
  · obtain ⟨us, h1, h2, h3⟩ := h
    refine ⟨us, h1, fun j x hx => ?_⟩
    have hj : j < us.size := by rw [h2]; exact (List.getElem?_eq_some_iff.1 hx).1
    exact ⟨us[j], by simp [hj], h3 j x _ hx (by simp [hj])⟩
theorem findA_at {K : TypeId} {l : List KT} (hK : rowTy P K l = true) {xs : List FV} {us : Array Value} (hu : ∀ (j : Nat) x, xs[j]? = some x → ∃ y, us[j]? = some y ∧ FRel F x y) (h2 : 2 ≤ l.length) :
    ∀ {es : List (List FV × AV)} {ms : List MapEntry} (j : Nat), ERel F ε es ms → (∀ e ∈ es, kinL l xs e.1 = true) →
    (∃ i e m, es[i]? = some e ∧ ms[i]? = some m ∧ samesL xs e.1 = true ∧ findI xs es j = some (j + i, e.2) ∧ (Instr.findAsking K (.agg us) ms j).run P w = .ok (some (j + i, m.val)) w) ∨
    (findI xs es j = none ∧ (Instr.findAsking K (.agg us) ms j).run P w = .ok none w)
  | [], ms, j, h, hk => by
    have : ms = [] := List.eq_nil_of_length_eq_zero (by simpa using h.1)
    subst this
    exact .inr ⟨rfl, rfl⟩
  | e :: es, ms, j, h, hk => by
    cases ms with
    | nil => have := h.1; simp at this
    | cons m ms =>
      obtain ⟨hy2, hv, ht⟩ := h.tail
      have k1 := hk e (by simp)
      obtain ⟨vs, hvs, hv2⟩ := hy2.many (by rw [(kinL_len k1).2]; exact h2)
      have he := (row_eq (w := w) hK k1 hu hv2).1
      have hq : (Op.equal K (.agg us) m.key).run P w = .ok (samesL xs e.1) w := by rw [hvs]; exact he
      cases hb : samesL xs e.1 with
      | true =>
        rw [hb] at hq
        exact .inl ⟨0, _, m, rfl, rfl, hb, by simp [findI, hb], by simp [Instr.findAsking, hq]⟩
      | false =>
        rw [hb] at hq
        rcases findA_at hK hu h2 (j + 1) ht (fun e' he' => hk e' (by simp [he'])) with ⟨i, e', m', q1, q2, q3, q4, q5⟩ | ⟨q1, q2⟩
        · exact .inl ⟨i + 1, e', m', by simpa using q1, by simpa using q2, q3, by simp [findI, hb, q4]; omega, by simp [Instr.findAsking, hq, q5]; omega⟩
        · exact .inr ⟨by simp [findI, hb, q1], by simp [Instr.findAsking, hq, q2]⟩
theorem same_val {k : KT} {x y : FV} {u v : Value} (hk : k.ok x y = true) (hs : x.same y = true) (hx : FRel F x u) (hy : FRel F y v) : ∀ n, Instr.sameBits (n + 1) v u = true := by
  intro n
  cases k <;> cases hx <;> cases hy <;> simp [KT.ok] at hk <;> simp_all [FV.same, Instr.sameBits, beq_bytes]
theorem same_row : ∀ {l : List KT} {xs ys : List FV}, kinL l xs ys = true → samesL xs ys = true → ∀ {us vs : List Value}, us.length = xs.length → vs.length = ys.length →
    (∀ (j : Nat) x y, xs[j]? = some x → us[j]? = some y → FRel F x y) → (∀ (j : Nat) x y, ys[j]? = some x → vs[j]? = some y → FRel F x y) → (vs.zip us).all (fun (x, y) => Instr.sameBits 9999 x y) = true
  | [], [], [], _, _, us, vs, hu, hv, _, _ => by
    simp at hu hv; subst hu; subst hv; rfl
  | k :: l, x :: xs, y :: ys, hk, hs, us, vs, hu, hv, h1, h2 => by
    cases us with
    | nil => simp at hu
    | cons u us =>
      cases vs with
      | nil => simp at hv
      | cons v vs =>
        simp only [kinL, Bool.and_eq_true] at hk
        simp only [samesL, Bool.and_eq_true] at hs
        have a := same_val hk.1 hs.1 (h1 0 x u rfl rfl) (h2 0 y v rfl rfl) 9998
        have b := same_row hk.2 hs.2 (us := us) (vs := vs) (by simpa using hu) (by simpa using hv) (fun j x y p q => h1 (j + 1) x y (by simpa using p) (by simpa using q)) (fun j x y p q => h2 (j + 1) x y (by simpa using p) (by simpa using q))
        simp only [List.zip_cons_cons, List.all_cons, Bool.and_eq_true]
        exact ⟨a, b⟩
  | [], _ :: _, _, h, _, _, _, _, _, _, _ => by cases h
  | [], [], _ :: _, h, _, _, _, _, _, _, _ => by cases h
  | _ :: _, [], _, h, _, _, _, _, _, _, _ => by cases h
  | _ :: _, _ :: _, [], h, _, _, _, _, _, _, _ => by cases h
/-- All that is to be known of a key. -/
theorem key_facts {t K e : TypeId} {k : KK} (hk : keyTyOk P t k = true) (hu : P.underlying t = some (.map K e)) {key : AV} {ks : List FV} (hks : keyK k key = some ks) {u : Value} (hv : VRel F ε key u) :
    KRel F ks u ∧ (∀ b, (Instr.checkKey b 10000 K u).run P w = .ok () w) ∧ ∀ {es : List (List FV × AV)} {ms : List MapEntry}, ERel F ε es ms → kinsK k ks es = true →
      (∃ i e m, es[i]? = some e ∧ ms[i]? = some m ∧ findI ks es 0 = some (i, e.2) ∧ Instr.sameBits 10000 m.key u = true ∧ (Instr.findKey K u ms).run P w = .ok (some (i, m.val)) w ∧ KRel F e.1 u) ∨
      (findI ks es 0 = none ∧ (Instr.findKey K u ms).run P w = .ok none w) := by
  cases k with
  | one str =>
    obtain ⟨K', e', d, h1, h2, h3⟩ := key_of hk
    rw [hu] at h1; cases h1
    have hkv : keyV key = some ks := by
      cases key <;> simp_all [keyK, keyV]
    obtain ⟨x, rfl, hx⟩ := key_rel hv hkv
    refine ⟨hx, fun b => run_checkKey h3 h2 b u, fun hE hks => ?_⟩
    rcases findI_at h3 hx 0 hE hks with ⟨i, e1, m, p1, p2, p3, p4, p5⟩ | ⟨p1, p2⟩
    · obtain ⟨q2, _⟩ := hE.2 i e1 m p1 p2
      obtain ⟨_, y, _, q1⟩ := kin_one (kins_at hks p1)
      rw [q1] at q2
      have hbits := same_bits hx q2.one (by rw [← q1]; exact kins_at hks p1) (by rw [← q1]; exact p3)
      refine .inl ⟨i, e1, m, p1, p2, by simpa using p4, hbits, ?_, ?_⟩
      · simp only [Instr.findKey, Sem.run_bind, run_underlying h2, Result.andThen_ok, p5, Sem.run_pure, Nat.zero_add]
      · rw [q1] at p3 ⊢
        have hkn := kins_at hks p1
        rw [q1] at hkn
        simp only [samesL, Bool.and_true] at p3
        unfold kin at hkn
        split at hkn <;> first | (cases hkn; done) | skip
        · rename_i a1 a2 a3 a4 a5 a6 a7
          simp only [List.cons.injEq, and_true] at *
          subst_vars
          simp only [FV.same, Bool.and_eq_true, decide_eq_true_eq, beq_iff_eq] at p3
          obtain ⟨rfl, rfl⟩ := p3
          exact hx
        · simp only [List.cons.injEq, and_true] at *
          subst_vars
          simp only [FV.same, decide_eq_true_eq] at p3
          subst p3
          exact hx
    · exact .inr ⟨p1, by simp only [Instr.findKey, Sem.run_bind, run_underlying h2, Result.andThen_ok, p2, Sem.run_pure]⟩
  | agg l =>
    simp only [keyTyOk, hu] at hk
    cases key with
    | agg cs =>
      simp only [keyK] at hks
      split at hks
      · rename_i hl
        cases hv with
        | agg a1 a2 =>
          rename_i us
          have hf := toFs_fs hks a1 a2
          have hlen := toFs_length hks
          have hkr : KRel F ks (.agg us) := by
            unfold KRel
            split
            · simp at hlen; omega
            · refine ⟨us, rfl, by rw [a1, hlen], fun i x y hx hy => ?_⟩
              obtain ⟨z, z1, z2⟩ := hf i x hx
              rw [hy] at z1; cases z1; exact z2
          have hrow := hk
          unfold rowTy at hk
          split at hk <;> first | (cases hk; done) | skip
          rename_i fs hfs
          simp only [Bool.and_eq_true, decide_eq_true_eq, Bool.not_eq_true'] at hk
          refine ⟨hkr, fun b => ?_, fun {es ms} hE hks' => ?_⟩
          · show (Instr.checkKey b (9999 + 1) K (.agg us)).run P w = _
            unfold Instr.checkKey
            simp only [Sem.run_bind, run_underlying hfs, Result.andThen_ok]
            rw [← Array.forIn_toList]
            rw [forIn_ok (P := P) (w := w) (fs := fs.toList) fun f hf => ?_]
            · rfl
            obtain ⟨q1, j, k, q2, q3, q4⟩ := rowFs_mem hk.1.1.2 f hf
            have hj : j < us.size := by rw [a1, hl.2]; exact q3
            have hp : (part f.type us f.offset).run P w = .ok us[j] w := part_basic q4 (by rw [q2, Nat.zero_add]; simp [hj])
            simp [q1, hp, check_basic (w := w) (b := b) (n := 9998) q4]
          · have hall : ∀ e ∈ es, kinL l ks e.1 = true := by
              simp only [kinsK, kinK, Bool.and_eq_true, List.all_eq_true] at hks'
              exact hks'.2
            cases es with
            | nil =>
              have : ms = [] := List.eq_nil_of_length_eq_zero (by simpa using hE.1)
              subst this
              refine .inr ⟨rfl, ?_⟩
              simp only [Instr.findKey, Sem.run_bind, run_underlying hfs, Result.andThen_ok, Instr.findNow, Sem.run_pure]
            | cons e0 es0 =>
              have hnow : Instr.findNow (.struct fs) (.agg us) ms 0 = none := by
                cases ms with
                | nil => have := hE.1; simp at this
                | cons m ms => simp [Instr.findNow, Instr.sameNow]
              have hfk : (Instr.findKey K (.agg us) ms).run P w = (Instr.findAsking K (.agg us) ms 0).run P w := by
                simp only [Instr.findKey, Sem.run_bind, run_underlying hfs, Result.andThen_ok, hnow]
              rw [hfk]
              rcases findA_at hrow hf hl.1 0 hE hall with ⟨i, e1, m, p1, p2, p3, p4, p5⟩ | ⟨p1, p2⟩
              · have hki := hall e1 (List.mem_of_getElem? p1)
                obtain ⟨q2, _⟩ := hE.2 i e1 m p1 p2
                unfold KRel at q2
                split at q2
                · rename_i heq; have := (kinL_len hki).2; rw [heq] at this; simp at this; omega
                · obtain ⟨vs, rfl', h2, h3⟩ := q2
                  have hus : us.size = ks.length := by rw [a1, hlen]
                  have hbits : Instr.sameBits 10000 m.key (.agg us) = true := by
                    rw [rfl']
                    show Instr.sameBits (9999 + 1) _ _ = true
                    simp only [Instr.sameBits, Bool.and_eq_true, beq_iff_eq]
                    refine ⟨by rw [h2, hus, (kinL_len hki).1, (kinL_len hki).2], ?_⟩
                    exact same_row hki p3 (by simpa using hus) (by simpa using h2) (fun j x y a b => by
                      obtain ⟨z, z1, z2⟩ := hf j x a
                      rw [Array.getElem?_toList, z1] at b; cases b; exact z2) (fun j x y a b => h3 j x y a (by simpa using b))
                  refine .inl ⟨i, e1, m, p1, p2, by simpa using p4, hbits, by simpa using p5, ?_⟩
                  unfold KRel
                  split
                  · rename_i heq; have := (kinL_len hki).2; rw [heq] at this; simp at this; omega
                  · refine ⟨us, rfl, by rw [hus, (kinL_len hki).1, (kinL_len hki).2], ?_⟩
                    have samefv : ∀ {l : List KT} {xs ys : List FV}, kinL l xs ys = true → samesL xs ys = true → xs = ys := by
                      intro l
                      induction l with
                      | nil => intro xs ys h g; cases xs <;> cases ys <;> first | rfl | cases h
                      | cons k l ih =>
                        intro xs ys h g
                        cases xs with
                        | nil => cases h
                        | cons x xs =>
                          cases ys with
                          | nil => cases h
                          | cons y ys =>
                            simp only [kinL, samesL, Bool.and_eq_true] at h g
                            rw [ih h.2 g.2]
                            congr 1
                            have h1 := h.1
                            have g1 := g.1
                            cases k <;> cases x <;> cases y <;> simp [KT.ok] at h1 <;> simp_all [FV.same]
                    rw [← samefv hki p3]
                    intro j x y a b
                    obtain ⟨z, z1, z2⟩ := hf j x a
                    rw [b] at z1; cases z1; exact z2
              · exact .inr ⟨p1, p2⟩
      · cases hks
    | _ => cases hks
theorem set_same {h : Heap} {id : Nat} {B : Blk} (hat : h.at id = some B) : h.set id (some B) = h := by
  unfold Heap.at at hat
  apply List.ext_getElem? 
  intro i
  rw [List.getElem?_set]
  split
  · rename_i e; subst e
    cases hh : h[id]? with
    | none => rw [hh] at hat; cases hat
    | some x =>
      rw [hh] at hat
      simp only [Option.join_some] at hat
      subst hat
      rw [if_pos (List.getElem?_eq_some_iff.1 hh).1]
  · rfl
theorem sem_entry {t K e : TypeId} {k : KK} {z : AV} {i' : TypeInfo} {zv : Value} (hk : keyTyOk P t k = true) (hu : P.underlying t = some (.map K e)) (hinfo : P.info? e = some i') (hz : i'.zero = some zv) (hzs : sameV zv z = true) :
    SemOk P (.entry k z) (fun us => do pure (.value (← Instr.mapEntry t (us.getD 0 undef) (us.getD 1 undef)))) := by
  intro args h v h' hp F ε w us W ha
  simp only [primE] at hp
  unfold entryE at hp
  split at hp <;> first | (cases hp; done) | skip
  rename_i id key
  split at hp <;> first | (cases hp; done) | skip
  rename_i es hat
  split at hp <;> first | (cases hp; done) | skip
  rename_i ks hks
  split at hp <;> first | (cases hp; done) | skip
  rename_i hkin
  obtain ⟨u, us', rfl, hu1, hn⟩ := ha.cons_inv
  obtain ⟨u2, us'', rfl, hu2, hn⟩ := hn.cons_inv
  have := hn.nil_inv; subst this
  have hzr : VRel F ε z zv := by
    have := ev_rel (F := F) (ε := ε) (x := .const zv) (y := .c z) (s := ⟨[], []⟩) (a := { tmps := #[], defers := [] }) (by simpa [chkX] using hzs) (fun t => by show VRel F ε .dead _; exact .dead _)
    exact this
  obtain ⟨c, ents, clock, l, hev, hh, hent, hel, hlc, hclock, hborn⟩ := map_get (s := ⟨[], h⟩) W hu1 hat
  subst hev
  obtain ⟨hkr, hck, hfind⟩ := key_facts (w := w) hk hu hks hu2
  have hlen : ents.size = es.length := by simpa using hent.1
  rcases hfind hent hkin with ⟨i, e1, m, p1, p2, p3, p4, p5, p6⟩ | ⟨p1, p2⟩
  · rw [p3] at hp
    simp only [Option.some.injEq, Prod.mk.injEq] at hp
    obtain ⟨rfl, rfl⟩ := hp
    have hm : ents[i]? = some m := by simpa using p2
    refine .inl ⟨.tuple #[m.val, goInt i], setB w c (.map (ents.modify i fun e => { e with key := u2 }) clock), ?_, F, ε, ?_, mk_tup (LRel.cons (hent.2 i e1 m p1 p2).2 (LRel.cons (.f (.int _ _)) (LRel.nil _ _)))⟩
    · refine run_v ?_
      have hset := run_setObj (P := P) (ents' := ents.modify i fun e => { e with key := u2 }) (clock' := clock) hh
      have hb := hborn i m hm
      simp [Instr.mapEntry, run_underlying hu, run_getObj hh, hck, p5, hm, Instr.keyThatStays, p4, hset, hb]
    · have := post_map (s := ⟨[], h⟩) (es' := es) (ents' := ents.modify i fun e => { e with key := u2 }) (clock' := clock) W hat hel hlc ⟨by simpa using hlen, fun j e2 m2 a1 a2 => by
        rw [Array.getElem?_toList, Array.getElem?_modify] at a2
        split at a2
        · rename_i hij
          subst hij
          rw [hm] at a2; cases a2
          rw [p1] at a1; cases a1
          exact ⟨p6, (hent.2 i e1 m p1 p2).2⟩
        · exact hent.2 j e2 m2 a1 (by simpa using a2)⟩ hclock (fun j m2 hm2 => by
        rw [Array.getElem?_modify] at hm2
        split at hm2
        · rename_i hij
          obtain ⟨m3, g1, g2⟩ := Option.map_eq_some_iff.1 hm2
          subst g2; exact hborn j m3 g1
        · exact hborn j m2 hm2)
      rw [set_same (h := h) hat] at this
      exact this
  · rw [p1] at hp
    simp only [Option.some.injEq, Prod.mk.injEq] at hp
    obtain ⟨rfl, rfl⟩ := hp
    refine .inl ⟨.tuple #[zv, goInt es.length], setB w c (.map (ents.push { key := u2, val := zv, born := clock }) (clock + 1)), ?_, F, ε, ?_, mk_tup (LRel.cons hzr (LRel.cons (.f (.int _ _)) (LRel.nil _ _)))⟩
    · refine run_v ?_
      have hset := run_setObj (P := P) (ents' := ents.push { key := u2, val := zv, born := clock }) (clock' := clock + 1) hh
      simp [Instr.mapEntry, run_underlying hu, run_getObj hh, hck, p2, run_zeroValue hinfo hz, hset, hclock]
      rw [hclock] at hset
      simp [hset]
    · refine post_map (s := ⟨[], h⟩) W hat hel hlc ⟨by simp [hlen], fun j e2 m2 a1 a2 => ?_⟩ (by simp [hclock]) (fun j m2 hm2 => by
        rw [Array.getElem?_push] at hm2
        split at hm2
        · cases hm2; simp only; omega
        · exact hborn j m2 hm2)
      rw [Array.getElem?_toList, Array.getElem?_push] at a2
      rw [List.getElem?_append] at a1
      split at a1
      · rename_i hlt
        rw [if_neg (by omega)] at a2
        exact hent.2 j e2 m2 a1 (by simpa using a2)
      · rename_i hlt
        by_cases hi0 : j = es.length
        · subst hi0
          rw [if_pos hlen.symm] at a2
          simp at a1; subst a1; cases a2
          exact ⟨hkr, hzr⟩
        · rw [List.getElem?_eq_none (by simp; omega)] at a1; cases a1
theorem sem_look {t K e : TypeId} {k : KK} {z : AV} {ok : Bool} {i' : TypeInfo} {zv : Value} (hk : keyTyOk P t k = true) (hu : P.underlying t = some (.map K e)) (hinfo : P.info? e = some i') (hz : i'.zero = some zv) (hzs : sameV zv z = true) :
    SemOk P (.look k z ok) (fun us => do pure (.value (← Instr.lookup t (us.getD 0 undef) (us.getD 1 undef) ok))) := by
  intro args h v h' hp F ε w us W ha
  simp only [primE] at hp
  unfold lookE at hp
  split at hp <;> first | (cases hp; done) | skip
  rename_i id key
  split at hp <;> first | (cases hp; done) | skip
  rename_i es hat
  split at hp <;> first | (cases hp; done) | skip
  rename_i ks hks
  split at hp <;> first | (cases hp; done) | skip
  rename_i hkin
  obtain ⟨u, us', rfl, hu1, hn⟩ := ha.cons_inv
  obtain ⟨u2, us'', rfl, hu2, hn⟩ := hn.cons_inv
  have := hn.nil_inv; subst this
  have hzr : VRel F ε z zv := by
    have := ev_rel (F := F) (ε := ε) (x := .const zv) (y := .c z) (s := ⟨[], []⟩) (a := { tmps := #[], defers := [] }) (by simpa [chkX] using hzs) (fun t => by show VRel F ε .dead _; exact .dead _)
    exact this
  obtain ⟨c, ents, clock, l, hev, hh, hent, hel, hlc, hclock, hborn⟩ := map_get (s := ⟨[], h⟩) W hu1 hat
  subst hev
  obtain ⟨hkr, hck, hfind⟩ := key_facts (w := w) hk hu hks hu2
  simp only [Option.some.injEq, Prod.mk.injEq] at hp
  obtain ⟨rfl, rfl⟩ := hp
  have fin : ∀ {u : Value} {v' : AV}, VRel F ε v' u → ∀ b : Bool, VRel F ε (if ok then .tup [v', .f (.bool b)] else v') (if ok then .tuple #[u, .bool b] else u) := by
    intro u v' h b
    cases ok
    · exact h
    · exact mk_tup (LRel.cons h (LRel.cons (.f (.bool b)) (LRel.nil _ _)))
  rcases hfind hent hkin with ⟨i, e1, m, p1, p2, p3, p4, p5, p6⟩ | ⟨p1, p2⟩
  · rw [p3]
    refine .inl ⟨if ok then .tuple #[m.val, .bool true] else m.val, w, ?_, F, ε, .refl W, fin (hent.2 i e1 m p1 p2).2 true⟩
    refine run_v ?_
    simp [Instr.lookup, run_underlying hu, run_getObj hh, hck, p5]
  · rw [p1]
    refine .inl ⟨if ok then .tuple #[zv, .bool false] else zv, w, ?_, F, ε, .refl W, fin hzr false⟩
    refine run_v ?_
    simp [Instr.lookup, run_underlying hu, run_getObj hh, hck, p2, run_zeroValue hinfo hz]
theorem sem_put {t : TypeId} : SemOk P .put (fun us => do Instr.entryStore t (us.getD 0 undef) (us.getD 1 undef) (us.getD 2 undef); pure .skip) := by
  intro args h v h' hp F ε w us W ha
  simp only [primE] at hp
  unfold putE at hp
  split at hp <;> first | (cases hp; done) | skip
  rename_i id kd n x
  split at hp <;> first | (cases hp; done) | skip
  rename_i es hat
  split at hp <;> first | (cases hp; done) | skip
  rename_i hn0
  split at hp <;> first | (cases hp; done) | skip
  rename_i e1 he1
  simp only [Option.some.injEq, Prod.mk.injEq] at hp
  obtain ⟨rfl, rfl⟩ := hp
  obtain ⟨u, us', rfl, hu1, hn⟩ := ha.cons_inv
  obtain ⟨u2, us'', rfl, hu2, hn⟩ := hn.cons_inv
  obtain ⟨u3, us3, rfl, hu3, hn⟩ := hn.cons_inv
  have := hn.nil_inv; subst this
  obtain ⟨c, ents, clock, l, hev, hh, hent, hel, hlc, hclock, hborn⟩ := map_get (s := ⟨[], h⟩) W hu1 hat
  subst hev
  have hu2' : u2 = .int kd n := by cases hu2 with | f hf => cases hf; rfl
  subst hu2'
  have hlen : ents.size = es.length := by simpa using hent.1
  have hi : n.toNat < es.length := (List.getElem?_eq_some_iff.1 he1).1
  have hm : ents[n.toNat]? = some ents[n.toNat] := by simp [hlen, hi]
  have hfi : ents.findIdx? (fun e => (e.born : Int) == n) = some n.toNat := by
    rw [Array.findIdx?_eq_some_iff_getElem]
    refine ⟨by omega, ?_, fun j hj => ?_⟩
    · have := hborn _ _ hm
      rw [this]; simp; omega
    · have := hborn j ents[j] (by simp)
      rw [this]; simp; omega
  refine .inr ⟨setB w c (.map (ents.modify n.toNat fun e => { e with val := u3 }) clock), ?_, F, ε, ?_, mk_tup (LRel.nil _ _)⟩
  · have hset := run_setObj (P := P) (ents' := ents.modify n.toNat fun e => { e with val := u3 }) (clock' := clock) hh
    have has : (Go.asInt (Value.int kd n)).run P w = .ok n w := rfl
    simp [Instr.entryStore, run_getObj hh, has, hfi, hset]
  · refine post_map (s := ⟨[], h⟩) W hat hel hlc ⟨by simp [hlen], fun j e2 m2 a1 a2 => ?_⟩ (by simp [hclock]) (fun j m2 hm2 => by
      rw [Array.getElem?_modify] at hm2
      split at hm2
      · obtain ⟨m3, g1, g2⟩ := Option.map_eq_some_iff.1 hm2
        subst g2; exact hborn j m3 g1
      · exact hborn j m2 hm2)
    rw [Array.getElem?_toList, Array.getElem?_modify] at a2
    rw [List.getElem?_set] at a1
    split at a1
    · rename_i hij
      subst hij
      cases a1
      rw [if_pos rfl, hm] at a2
      cases a2
      exact ⟨(hent.2 n.toNat e1 ents[n.toNat] he1 (by rw [Array.getElem?_toList]; exact hm)).1, hu3⟩
    · rename_i hij
      rw [if_neg hij] at a2
      exact hent.2 j e2 m2 a1 (by simpa using a2)
/-- All of them. -/
theorem d_prim {p : PK} {xs : List AX} (hc : chkOp P o.op (.prim p xs) = true) (hr : opE X (.prim p xs) s = some (v, s')) (W : WRel F ε s.hp w) (ht : TRel F ε s.tm a.tmps) : OpOk P o a F ε s.hp w v s'.hp := by
  simp only [chkOp] at hc
  cases p with
  | range =>
    simp only at hc
    split at hc <;> first | (cases hc; done) | skip
    rename_i t x y ho
    simp only [Bool.and_eq_true] at hc
    obtain ⟨h1, h2⟩ := hc
    split at h2 <;> first | (cases h2; done) | skip
    rename_i hu
    exact ok_of_sem (sem_range hu) (os := [x]) (by simp [chkXs, h1]) (by simp only [execOp, ho]; rfl) hr W ht
  | next =>
    simp only at hc
    split at hc <;> first | (cases hc; done) | skip
    rename_i x y ho
    exact ok_of_sem (sem_next (ty := o.type)) (os := [x]) (by simp [chkXs, hc]) (by simp only [execOp, ho]; rfl) hr W ht
  | entry k z =>
    simp only at hc
    split at hc <;> first | (cases hc; done) | skip
    rename_i t m k' y q ho
    simp only [Bool.and_eq_true] at hc
    obtain ⟨⟨⟨h1, h2⟩, h3⟩, h4⟩ := hc
    split at h4 <;> first | (cases h4; done) | skip
    rename_i K e hu
    obtain ⟨i', hi, h4⟩ := any_some' h4
    split at h4 <;> first | (cases h4; done) | skip
    rename_i zv hz
    exact ok_of_sem (sem_entry h3 hu hi hz h4) (os := [m, k']) (by simp [chkXs, h1, h2]) (by simp only [execOp, ho]; rfl) hr W ht
  | look k z ok =>
    simp only at hc
    split at hc <;> first | (cases hc; done) | skip
    rename_i t m k' ok' y q ho
    simp only [Bool.and_eq_true, beq_iff_eq] at hc
    obtain ⟨⟨⟨⟨h1, h2⟩, rfl⟩, h3⟩, h4⟩ := hc
    split at h4 <;> first | (cases h4; done) | skip
    rename_i K e hu
    obtain ⟨i', hi, h4⟩ := any_some' h4
    split at h4 <;> first | (cases h4; done) | skip
    rename_i zv hz
    exact ok_of_sem (sem_look h3 hu hi hz h4) (os := [m, k']) (by simp [chkXs, h1, h2]) (by simp only [execOp, ho]; rfl) hr W ht
  | put =>
    simp only at hc
    split at hc <;> first | (cases hc; done) | skip
    rename_i t m st u y q z ho
    simp only [Bool.and_eq_true] at hc
    exact ok_of_sem (sem_put (t := t)) (os := [m, st, u]) (by simp [chkXs, hc.1.1, hc.1.2, hc.2]) (by simp only [execOp, ho]; rfl) hr W ht
  | eqs neg l =>
    simp only at hc
    split at hc <;> first | (cases hc; done) | skip
    rename_i o' t x y ty x' y' ho
    simp only [Bool.and_eq_true, decide_eq_true_eq] at hc
    exact ok_of_sem (sem_eqs hc.1.1.1 hc.1.1.2 (x := x) (y := y)) (os := [x, y]) (by simp [chkXs, hc.1.2, hc.2]) (by simp only [execOp, ho]; rfl) hr W ht
end
end Go.Ab
