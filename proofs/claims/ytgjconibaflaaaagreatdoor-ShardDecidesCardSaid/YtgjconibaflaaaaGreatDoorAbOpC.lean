/- One operation: maps. -/
import Derived.Test.YtgjconibaflaaaaGreatDoorAbOpB
namespace Go.Ab
open Go
set_option linter.unusedVariables false
set_option linter.unusedSimpArgs false
section
variable {P : Program} {F : Frz} {ε : Env} {w : World} {s s' : St} {a : Act} {o : Oper} {v : AV}

theorem beq_bytes (s t : ByteArray) : (s == t) = decide (s = t) := by
  cases s; cases t
  rename_i x y
  show (x == y) = _
  by_cases h : x = y
  · subst h; simp
  · have : (⟨x⟩ : ByteArray) ≠ ⟨y⟩ := fun e => h (by cases e; rfl)
    simp [h, this]
def kindOk (str : Bool) (d : TypeDesc) : Prop := (str = false ∧ ∃ k, d = .int k) ∨ (str = true ∧ d = .string)
theorem same_now {str : Bool} {d : TypeDesc} (hd : kindOk str d) {x y : FV} {u v : Value} (hx : FRel F x u) (hy : FRel F y v) (hk : kin str [x] [y] = true) : Instr.sameNow d u v = some (samesL [x] [y]) := by
  rcases hd with ⟨rfl, k, rfl⟩ | ⟨rfl, rfl⟩
  · cases hx <;> cases hy <;> simp_all [kin, Instr.sameNow, samesL, FV.same]
    rfl
  · cases hx <;> cases hy <;> simp_all [kin, Instr.sameNow, samesL, FV.same]
    rename_i s t
    exact beq_bytes s t
theorem kin_one {str : Bool} {key key' : List FV} (h : kin str key key' = true) : ∃ x y, key = [x] ∧ key' = [y] := by
  unfold kin at h
  split at h
  · exact ⟨_, _, rfl, rfl⟩
  · exact ⟨_, _, rfl, rfl⟩
  · cases h
/-- The entries are the model's. -/
def ERel (F : Frz) (ε : Env) (es : List (List FV × AV)) (ms : List MapEntry) : Prop :=
  ms.length = es.length ∧ ∀ (i : Nat) e m, es[i]? = some e → ms[i]? = some m → KRel F e.1 m.key ∧ VRel F ε e.2 m.val
theorem ERel.tail {e es m ms} (h : ERel F ε (e :: es) (m :: ms)) : KRel F e.1 m.key ∧ VRel F ε e.2 m.val ∧ ERel F ε es ms :=
  ⟨(h.2 0 e m rfl rfl).1, (h.2 0 e m rfl rfl).2, by simpa using h.1, fun i e' m' h1 h2 => h.2 (i + 1) e' m' (by simpa using h1) (by simpa using h2)⟩
theorem kins_tail {str : Bool} {key : List FV} {e es} (h : kins str key (e :: es) = true) : kin str key e.1 = true ∧ kins str key es = true := by
  simp only [kins, List.all_cons, Bool.and_eq_true] at h ⊢
  exact ⟨h.2.1, h.1, h.2.2⟩
theorem find_spec {str : Bool} {d : TypeDesc} (hd : kindOk str d) {x : FV} {u : Value} (hx : FRel F x u) : ∀ {es : List (List FV × AV)} {ms : List MapEntry}, ERel F ε es ms → kins str [x] es = true →
    (∃ i e m, es[i]? = some e ∧ ms[i]? = some m ∧ samesL [x] e.1 = true ∧ findE [x] es = some e.2 ∧ (∀ v, setE [x] v es = es.set i ([x], v)) ∧ delE [x] es = es.eraseIdx i ∧ ∀ j, Instr.findNow d u ms j = some (some (j + i, m.val))) ∨
    (findE [x] es = none ∧ (∀ v, setE [x] v es = es ++ [([x], v)]) ∧ delE [x] es = es ∧ ∀ j, Instr.findNow d u ms j = some none)
  | [], ms, h, hk => by
    have : ms = [] := List.eq_nil_of_length_eq_zero (by simpa using h.1)
    subst this
    exact .inr ⟨rfl, fun _ => rfl, rfl, fun _ => rfl⟩
  | e :: es, ms, h, hk => by
    cases ms with
    | nil => have := h.1; simp at this
    | cons m ms =>
      obtain ⟨hy2, hv, ht⟩ := h.tail
      obtain ⟨k1, k2⟩ := kins_tail hk
      obtain ⟨ek, ev⟩ := e
      obtain ⟨_, y, _, hy1⟩ := kin_one k1
      simp only at hy1; subst hy1
      replace hy2 := hy2.one
      have hs := same_now hd hx hy2 k1
      cases hb : samesL [x] [y] with
      | true =>
        rw [hb] at hs
        exact .inl ⟨0, _, m, rfl, rfl, hb, by simp [findE, hb], fun v => by simp [setE, hb], by simp [delE, hb], fun j => by simp [Instr.findNow, hs]⟩
      | false =>
        rw [hb] at hs
        rcases find_spec hd hx ht k2 with ⟨i, e', m', h1, h2, h3, h4, h5, h6, h7⟩ | ⟨h1, h2, h3, h4⟩
        · exact .inl ⟨i + 1, e', m', by simpa using h1, by simpa using h2, h3, by simp [findE, hb, h4], fun v => by simp [setE, hb, h5 v], by simp [delE, hb, h6], fun j => by simp [Instr.findNow, hs, h7 (j + 1)]; omega⟩
        · exact .inr ⟨by simp [findE, hb, h1], fun v => by simp [setE, hb, h2 v], by simp [delE, hb, h3], fun j => by simp [Instr.findNow, hs, h4]⟩
theorem run_checkKey {str : Bool} {d : TypeDesc} {K : TypeId} (hd : kindOk str d) (hK : P.underlying K = some d) (b : Bool) (u : Value) : (Instr.checkKey b 10000 K u).run P w = .ok () w := by
  show (Instr.checkKey b (9999 + 1) K u).run P w = .ok () w
  unfold Instr.checkKey
  simp only [Sem.run_bind, run_underlying hK, Result.andThen_ok]
  rcases hd with ⟨_, k, rfl⟩ | ⟨_, rfl⟩ <;> rfl
theorem key_of {t : TypeId} {str : Bool} (h : keyOk P t str = true) : ∃ K e d, P.underlying t = some (.map K e) ∧ P.underlying K = some d ∧ kindOk str d := by
  unfold keyOk at h
  split at h
  · rename_i K e hu
    split at h
    · rename_i k hk; exact ⟨K, e, _, hu, hk, .inl ⟨by simpa using h, k, rfl⟩⟩
    · rename_i hk; exact ⟨K, e, _, hu, hk, .inr ⟨h, rfl⟩⟩
    · cases h
  · cases h
theorem key_rel {y : AV} {u : Value} {key : List FV} (h : VRel F ε y u) (hk : keyV y = some key) : ∃ x, key = [x] ∧ FRel F x u := by
  cases h with
  | f h =>
    simp only [keyV, Option.some.injEq] at hk; subst hk
    exact ⟨_, rfl, h⟩
  | _ => cases hk
theorem map_get (W : WRel F ε s.hp w) {u : Value} {id : Nat} {es : List (List FV × AV)} (h : VRel F ε (.mp id) u) (hat : s.hp.at id = some (.map es)) :
    ∃ c ents clock l, u = .map (some c) ∧ w.heap[c]? = some (.map ents clock) ∧ ERel F ε es ents.toList ∧ ε id = some l ∧ l.c = some c ∧ clock = es.length ∧ ∀ (i : Nat) (m : MapEntry), ents[i]? = some m → m.born = i := by
  cases h with
  | mp he hc =>
    obtain ⟨l', e1, hr⟩ := W.blk id _ hat
    rw [he] at e1; cases e1
    obtain ⟨c', ents, h1, h2, h3, h4⟩ := hr
    rw [hc] at h1; cases h1
    refine ⟨_, ents, es.length, _, rfl, h2, ⟨by simpa using h3, fun i e m a b => ?_⟩, he, hc, rfl, fun i m hm => ?_⟩
    · obtain ⟨q1, q2, q3⟩ := h4 i e m a (by simpa using b)
      exact ⟨q1, q2⟩
    · have hi : i < es.length := by rw [← h3]; exact (Array.getElem?_eq_some_iff.1 hm).1
      exact (h4 i _ m (List.getElem?_eq_getElem hi) hm).2.2

theorem op_lookup {t K e : TypeId} {str ok : Bool} {x i : Operand} {y q : AX} {i' : TypeInfo} {zv : Value} {z r : AV} {key : List FV} (ho : o.op = .lookup t x i ok) (hx : chkX x y = true) (hi : chkX i q = true) (hko : keyOk P t str = true)
    (hu : P.underlying t = some (.map K e)) (hinfo : P.info? e = some i') (hz : i'.zero = some zv) (hzs : sameV zv z = true) (hkey : keyV (s.ev q) = some key)
    (hr : (s.ev y = .f .nilm ∧ r = found z ok none) ∨ (∃ id es, s.ev y = .mp id ∧ s.hp.at id = some (.map es) ∧ kins str key es = true ∧ r = found z ok (findE key es)))
    (W : WRel F ε s.hp w) (ht : TRel F ε s.tm a.tmps) : OpOk P o a F ε s.hp w r s.hp := by
  obtain ⟨K', e', d, h1, h2, h3⟩ := key_of hko
  rw [hu] at h1; cases h1
  obtain ⟨xk, rfl, hxk⟩ := key_rel (ev_rel hi ht) hkey
  have hrel := ev_rel hx ht
  have hzr : VRel F ε z zv := by
    have := ev_rel (F := F) (ε := ε) (x := .const zv) (y := .c z) (s := s) (a := a) (by simpa [chkX] using hzs) ht
    exact this
  have fin : ∀ {u : Value} {v' : AV}, VRel F ε v' u → ∀ b : Bool, VRel F ε (if ok then .tup [v', .f (.bool b)] else v') (if ok then .tuple #[u, .bool b] else u) := by
    intro u v' h b
    cases ok
    · exact h
    · exact mk_tup (LRel.cons h (LRel.cons (.f (.bool b)) (LRel.nil _ _)))
  rcases hr with ⟨hy, rfl⟩ | ⟨id, es, hy, hat, hk, rfl⟩
  · rw [hy] at hrel
    have hev : a.eval x = .map none := by
      generalize a.eval x = u at hrel ⊢
      cases hrel with | f h => cases h; rfl
    refine gives_pure (u := if ok then .tuple #[zv, .bool false] else zv) ?_ W (fin hzr false)
    simp only [execOp, ho]
    refine run_v ?_
    simp only [Instr.lookup, Sem.run_bind, run_underlying hu, Result.andThen_ok, hev, Sem.run_pure, run_checkKey h3 h2]
    simp only [Instr.findKey, Sem.run_bind, run_underlying h2, Result.andThen_ok, Instr.findNow, Sem.run_pure, run_zeroValue hinfo hz]
  · rw [hy] at hrel
    obtain ⟨c, ents, clock, l, hev, hh, hent, _, _, _, _⟩ := map_get W hrel hat
    rcases find_spec h3 hxk hent hk with ⟨j, e1, m, p1, p2, p3, p4, p5, p6, p7⟩ | ⟨p1, p2, p3, p4⟩
    · rw [p4]
      refine gives_pure (u := if ok then .tuple #[m.val, .bool true] else m.val) ?_ W (fin (hent.2 j e1 m p1 p2).2 true)
      simp only [execOp, ho]
      refine run_v ?_
      simp only [Instr.lookup, Sem.run_bind, run_underlying hu, Result.andThen_ok, hev, Sem.run_pure, run_getObj hh, run_checkKey h3 h2]
      simp only [Instr.findKey, Sem.run_bind, run_underlying h2, Result.andThen_ok, p7, Sem.run_pure]
    · rw [p1]
      refine gives_pure (u := if ok then .tuple #[zv, .bool false] else zv) ?_ W (fin hzr false)
      simp only [execOp, ho]
      refine run_v ?_
      simp only [Instr.lookup, Sem.run_bind, run_underlying hu, Result.andThen_ok, hev, Sem.run_pure, run_getObj hh, run_checkKey h3 h2]
      simp only [Instr.findKey, Sem.run_bind, run_underlying h2, Result.andThen_ok, p4, Sem.run_pure, run_zeroValue hinfo hz]
theorem run_setObj {r : Nat} {ents ents' : Array MapEntry} {clock clock' : Nat} (h : w.heap[r]? = some (.map ents clock)) : (setObj r (.map ents' clock')).run P w = .ok () (setB w r (.map ents' clock')) := by
  simp [setObj, Sem.run, setB, h]
theorem same_bits {str : Bool} {x y : FV} {u v : Value} (hx : FRel F x u) (hy : FRel F y v) (hk : kin str [x] [y] = true) (hs : samesL [x] [y] = true) : Instr.sameBits 10000 v u = true := by
  show Instr.sameBits (9999 + 1) v u = true
  cases str
  · cases hx <;> cases hy <;> simp_all [kin, Instr.sameBits, samesL, FV.same]
  · cases hx <;> cases hy <;> simp_all [kin, Instr.sameBits, samesL, FV.same, beq_bytes]
/-- A map turns. -/
theorem post_map (W : WRel F ε s.hp w) {id c : Nat} {l : Loc} {es es' : List (List FV × AV)} {ents' : Array MapEntry} {clock' : Nat} (hat : s.hp.at id = some (.map es)) (he : ε id = some l) (hc : l.c = some c)
    (h : ERel F ε es' ents'.toList) (hcl : clock' = es'.length) (hb : ∀ (i : Nat) (m : MapEntry), ents'[i]? = some m → m.born = i) : Post F ε s.hp w F ε (s.hp.set id (some (.map es'))) (setB w c (.map ents' clock')) := by
  subst hcl
  have hlt := W.blk_lt hat he hc
  obtain ⟨W1, F1, O1⟩ := W.upd (B' := .map es') (o := .map ents' es'.length) hat he hc ⟨c, ents', hc, by rw [setB_get, if_pos ⟨rfl, hlt⟩], by simpa using h.1, fun i e m a b => ⟨(h.2 i e m a (by simpa using b)).1, (h.2 i e m a (by simpa using b)).2, hb i m b⟩⟩
  exact ⟨FGrow.refl _ _ _ _, fun _ _ => rfl, by simp, W1, F1, O1⟩
theorem kins_at {str : Bool} {key : List FV} {es : List (List FV × AV)} (h : kins str key es = true) {i : Nat} {e} (hi : es[i]? = some e) : kin str key e.1 = true := by
  simp only [kins, Bool.and_eq_true, List.all_eq_true] at h
  exact h.2 e (List.mem_of_getElem? hi)
theorem op_mapset {t : TypeId} {str : Bool} {m' k' v' : Operand} {y q z : AX} {key : List FV} {id : Nat} {es : List (List FV × AV)} (ho : o.op = .mapUpdate t m' k' v' ∨ o.op = .insert t m' k' v') (hx : chkX m' y = true) (hi : chkX k' q = true) (hv : chkX v' z = true) (hko : keyOk P t str = true)
    (hkey : keyV (s.ev q) = some key) (hy : s.ev y = .mp id) (hat : s.hp.at id = some (.map es)) (hk : kins str key es = true)
    (W : WRel F ε s.hp w) (ht : TRel F ε s.tm a.tmps) : OpOk P o a F ε s.hp w (.tup []) (s.hp.set id (some (.map (setE key (s.ev z) es)))) := by
  obtain ⟨K, e, d, h1, h2, h3⟩ := key_of hko
  obtain ⟨xk, rfl, hxk⟩ := key_rel (ev_rel hi ht) hkey
  have hrel := ev_rel hx ht
  have hzr := ev_rel hv ht
  rw [hy] at hrel
  obtain ⟨c, ents, clock, l, hev, hh, hent, hel, hlc, hclock, hborn⟩ := map_get W hrel hat
  have fin : ∀ {w' : World}, (Instr.mapUpdate t (a.eval m') (a.eval k') (a.eval v')).run P w = .ok () w' → Post F ε s.hp w F ε (s.hp.set id (some (.map (setE [xk] (s.ev z) es)))) w' →
      OpOk P o a F ε s.hp w (.tup []) (s.hp.set id (some (.map (setE [xk] (s.ev z) es)))) := by
    intro w' hrun hp
    refine gives_skip ?_ ⟨F, ε, hp, mk_tup (LRel.nil _ _)⟩
    rcases ho with ho | ho <;> (simp only [execOp, ho]; exact run_u hrun)
  rcases find_spec h3 hxk hent hk with ⟨j, e1, m, p1, p2, p3, p4, p5, p6, p7⟩ | ⟨p1, p2, p3, p4⟩
  · obtain ⟨q2, q3⟩ := hent.2 j e1 m p1 p2
    obtain ⟨_, yk, _, q1⟩ := kin_one (kins_at hk p1)
    rw [q1] at q2
    have hbits := same_bits hxk q2.one (by rw [← q1]; exact kins_at hk p1) (by rw [← q1]; exact p3)
    have hm : ents[j]? = some m := by simpa using p2
    refine fin (w' := setB w c (.map (ents.modify j fun e => { e with key := a.eval k', val := a.eval v' }) clock)) ?_ ?_
    · simp only [Instr.mapUpdate, Sem.run_bind, run_underlying h1, Result.andThen_ok, hev, run_getObj hh, run_checkKey h3 h2]
      simp only [Instr.findKey, Sem.run_bind, run_underlying h2, Result.andThen_ok, p7, Sem.run_pure, Nat.zero_add, hm, Option.map_some, Option.getD_some, Instr.keyThatStays, hbits, if_true]
      exact run_setObj hh
    · refine post_map W hat hel hlc ?_ (by rw [p5]; simpa using hclock) (fun i m2 hm2 => by
        rw [Array.getElem?_modify] at hm2
        split at hm2
        · rename_i hij
          obtain ⟨m3, g1, g2⟩ := Option.map_eq_some_iff.1 hm2
          subst g2; exact hborn i m3 g1
        · exact hborn i m2 hm2)
      rw [p5]
      refine ⟨by simpa using hent.1, fun i e2 m2 a1 a2 => ?_⟩
      rw [Array.getElem?_toList, Array.getElem?_modify] at a2
      rw [List.getElem?_set] at a1
      split at a1
      · rename_i hij
        subst hij
        split at a1
        · cases a1
          rw [if_pos rfl, hm] at a2
          cases a2
          exact ⟨hxk, hzr⟩
        · cases a1
      · rename_i hij
        rw [if_neg hij] at a2
        exact hent.2 i e2 m2 a1 (by simpa using a2)
  · refine fin (w' := setB w c (.map (ents.push { key := a.eval k', val := a.eval v', born := clock }) (clock + 1))) ?_ ?_
    · simp only [Instr.mapUpdate, Sem.run_bind, run_underlying h1, Result.andThen_ok, hev, run_getObj hh, run_checkKey h3 h2]
      simp only [Instr.findKey, Sem.run_bind, run_underlying h2, Result.andThen_ok, p4, Sem.run_pure]
      exact run_setObj hh
    · refine post_map W hat hel hlc ?_ (by rw [p2]; simp [hclock]) (fun i m2 hm2 => by
        rw [Array.getElem?_push] at hm2
        split at hm2
        · rename_i hij
          cases hm2
          have hsz : ents.size = es.length := by simpa using hent.1
          simp only; omega
        · exact hborn i m2 hm2)
      rw [p2]
      have hsz : ents.size = es.length := by simpa using hent.1
      refine ⟨by simp [hsz], fun i e2 m2 a1 a2 => ?_⟩
      rw [Array.getElem?_toList, Array.getElem?_push] at a2
      rw [List.getElem?_append] at a1
      split at a1
      · rename_i hlt
        rw [if_neg (by omega)] at a2
        exact hent.2 i e2 m2 a1 (by simpa using a2)
      · rename_i hlt
        by_cases hi0 : i = es.length
        · subst hi0
          rw [if_pos hsz.symm] at a2
          simp at a1; subst a1; cases a2
          exact ⟨hxk, hzr⟩
        · rw [List.getElem?_eq_none (by simp; omega)] at a1; cases a1

/-! ### copy, clear of a slice, make -/
theorem op_copy {t tx e : TypeId} {i : TypeInfo} {k id off n m : Nat} {ts : Array TypeId} {args : Array Operand} {x u : Operand} {y q : AX} {b xs b' : Blk} (ho : o.op = .call { callee := .builtin .copy, args := args, argTypes := ts })
    (hts : ts = #[t, tx]) (has : args = #[x, u]) (hx : chkX x y = true) (hu : chkX u q = true) (hut : P.underlying t = some (.slice e)) (hi : P.info? e = some i) (hik : i.size = k)
    (hv : (s.ev y = .vec id ∧ off = 0 ∧ n = b.count) ∨ s.ev y = .sub id off n) (hat : s.hp.at id = some b) (hle : off + n ≤ b.count)
    (hxs : cont s.hp (s.ev q) = some xs) (hw : (xs.take m).whole = true) (hbk : b.width = some k) (hm : m = Nat.min xs.count n) (hj : Blk.over b off (xs.take m) = some b')
    (W : WRel F ε s.hp w) (ht : TRel F ε s.tm a.tmps) : OpOk P o a F ε s.hp w (.f (.int .i64 m)) (s.hp.set id (some b')) := by
  obtain ⟨k', j1, j2, j3, j4, j5⟩ := over_ofB hj
  rw [hbk] at j1; cases j1
  rw [(take_ofB xs m).2] at j2
  obtain ⟨us, u1, u2, u3, u4⟩ := cont_rel (P := P) W (ev_rel hu ht) hxs j2
  have hmle : m ≤ xs.count := by subst hm; exact Nat.min_le_left _ _
  have hfl : Flat F ε k (ofB (xs.take m)) (us.take (m * k)) := by
    rw [(take_ofB xs m).1]
    refine ⟨?_, fun r hr => u1.2.1 r (List.mem_of_mem_take hr), fun p j z w2 h1 h2 => ?_⟩
    · rw [List.length_take, u1.1, List.length_take, ← u3]
      rw [Nat.min_eq_left (Nat.mul_le_mul_right _ hmle), Nat.min_eq_left hmle]
    · have h1' : at2 (ofB xs) p j = some z := by
        obtain ⟨r, hr, hz⟩ := at2_lt h1
        rw [List.getElem?_take] at hr
        split at hr
        · simp [at2, hr, hz]
        · cases hr
      rw [List.getElem?_take] at h2
      split at h2
      · exact u1.2.2 p j z w2 h1' h2
      · cases h2
  have hone : ∀ v ∈ us.take (m * k), one v = true := hfl.one (whole_cells hw)
  have hr := ev_rel hx ht
  obtain ⟨l, el, hb⟩ := W.blk id b hat
  have hcnt : b.count = l.n := count_of hb (by rw [hbk]; simp)
  have hvx : ∃ ad, SlAt l off ad ∧ a.eval x = .slice ad n (l.C - off) := by
    rcases hv with ⟨h1, rfl, h2⟩ | h1
    · rw [h1] at hr
      generalize a.eval x = u at hr ⊢
      cases hr with
      | vec h ha =>
        rw [el] at h; cases h
        exact ⟨_, ha, by rw [Nat.sub_zero, h2, hcnt]⟩
    · rw [h1] at hr
      generalize a.eval x = u at hr ⊢
      cases hr with
      | sub h hn ha =>
        rw [el] at h; cases h
        exact ⟨_, ha, rfl⟩
  obtain ⟨ad, hsl, hev⟩ := hvx
  obtain ⟨w', r1, r2⟩ := write_in (P := P) (n := 0) W hat el hsl (by simpa using hj) hbk hfl hone
  subst hts has
  refine gives_value (run_builtin (P := P) (w := w) (a := a) (b := .copy) (args := #[x, u]) (ts := #[t, tx]) (u := .int .i64 m) (w' := w') ho ?_) ⟨F, ε, r2, .f (.int _ _)⟩
  simp only [builtin]
  refine run_v ?_
  have hfc := u4 m hmle w rfl
  cases ad with
  | none =>
    simp only [Sem.run_pure, Result.ok.injEq, true_and] at r1
    subst r1
    simp [Builtin.copy_, run_underlying hut, run_sizeOf hi, hev, u2, ← hm, hik, hfc, goInt]
  | some ad =>
    simp only [Nat.zero_mul] at r1
    have had : ad.add 0 = ad := by simp [Addr.add]
    rw [had] at r1
    simp [Builtin.copy_, run_underlying hut, run_sizeOf hi, hev, u2, ← hm, hik, hfc, goInt, r1]
end
end Go.Ab
