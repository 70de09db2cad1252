/- One operation: lengths, slices, builtins that only reckon. -/
import Derived.Test.YtgjconibaflaaaaGreatDoorAbOp5
namespace Go.Ab
open Go
set_option linter.unusedVariables false
set_option linter.unusedSimpArgs false
section
variable {P : Program} {F : Frz} {ε : Env} {w : World} {s s' : St} {a : Act} {o : Oper} {v : AV}

theorem chk1 {l : List Operand} {y : AX} (h : chkXs l [y] = true) : ∃ x, l = [x] ∧ chkX x y = true := by
  match l, h with
  | [x], h => exact ⟨x, rfl, by simpa [chkXs] using h⟩
  | [], h => simp [chkXs] at h
  | _ :: _ :: _, h => simp [chkXs] at h
theorem chk2 {l : List Operand} {y z : AX} (h : chkXs l [y, z] = true) : ∃ x u, l = [x, u] ∧ chkX x y = true ∧ chkX u z = true := by
  match l, h with
  | [x, u], h => exact ⟨x, u, rfl, by simpa [chkXs] using h⟩
  | [], h => simp [chkXs] at h
  | [_], h => simp [chkXs] at h
  | _ :: _ :: _ :: _, h => simp [chkXs] at h
theorem args1 {as : Array Operand} {x : Operand} (h : as.toList = [x]) : as = #[x] := by cases as; simp_all
theorem args2 {as : Array Operand} {x y : Operand} (h : as.toList = [x, y]) : as = #[x, y] := by cases as; simp_all
theorem size1 {ts : Array TypeId} (h : ts.size = 1) : ∃ t, ts = #[t] ∧ ts.getD 0 0 = t := by
  match ts, h with
  | ⟨[t]⟩, _ => exact ⟨t, rfl, rfl⟩
theorem size2 {ts : Array TypeId} (h : ts.size = 2) : ∃ t u, ts = #[t, u] ∧ ts.getD 0 0 = t ∧ ts.getD 1 0 = u := by
  match ts, h with
  | ⟨[t, u]⟩, _ => exact ⟨t, u, rfl, rfl, rfl⟩
/-- The run of a builtin. -/
theorem run_builtin {b : Builtin} {args : Array Operand} {ts : Array TypeId} {u : Value} {w' : World} (ho : o.op = .call { callee := .builtin b, args := args, argTypes := ts })
    (h : (builtin b ts o.type (args.map fun | .const _ => true | _ => false) (args.map a.eval)).run P w = .ok (.value u) w') : (execOp a.eval o).run P w = .ok (.value u) w' := by
  simp only [execOp, ho, resolve, Sem.run_bind, Sem.run_pure, Result.andThen_ok, invoke]
  exact h
theorem op_len {ts : Array TypeId} {args : Array Operand} {y : AX} {n : Nat} (ho : o.op = .call { callee := .builtin .len, args := args, argTypes := ts }) (hx : chkXs args.toList [y] = true) (hts : ts.size = 1)
    (hd : ∀ x, args = #[x] → (Builtin.len_ ts o.type #[a.eval x]).run P w = .ok (.int .i64 n) w) (W : WRel F ε s.hp w) : OpOk P o a F ε s.hp w (.f (.int .i64 n)) s.hp := by
  obtain ⟨x, hx1, hx2⟩ := chk1 hx
  have := args1 hx1
  subst this
  refine gives_pure (run_builtin ho ?_) W (.f (.int _ _))
  simp only [builtin]
  exact run_v (by simpa using hd x rfl)
theorem len_str {ts : Array TypeId} {x : Operand} {y : AX} {t : ByteArray} {T : TypeId} (hx : chkX x y = true) (hts : ts.size = 1) (hd : P.underlying (ts.getD 0 0) = some .string) (hv : s.ev y = .f (.str t)) (ht : TRel F ε s.tm a.tmps) :
    (Builtin.len_ ts T #[a.eval x]).run P w = .ok (.int .i64 t.size) w := by
  have h := ev_rel hx ht; rw [hv] at h
  obtain ⟨T0, rfl, hT0⟩ := size1 hts
  rw [hT0] at hd
  rw [rel_str h]
  simp [Builtin.len_, run_underlying hd, goInt]
theorem rel_slice_len {u : Value} {x : AV} {n : Nat} (W : WRel F ε s.hp w) (h : VRel F ε x u)
    (hn : (∃ k rs, x = .f (.sl k rs) ∧ n = rs.length) ∨ (∃ k, x = .sl0 k ∧ n = 0) ∨ (∃ id b, x = .vec id ∧ s.hp.at id = some b ∧ n = b.count ∧ b.width ≠ none) ∨ (∃ id o, x = .sub id o n)) : ∃ ad cap, u = .slice ad n cap := by
  rcases hn with ⟨k, rs, rfl, rfl⟩ | ⟨k, rfl, rfl⟩ | ⟨id, b, rfl, hat, rfl, hw⟩ | ⟨id, o, rfl⟩
  · cases h with | f h => cases h <;> exact ⟨_, _, rfl⟩
  · cases h; exact ⟨_, _, rfl⟩
  · cases h with
    | vec hε ha =>
      obtain ⟨l', he', hB⟩ := W.blk id b hat
      rw [hε] at he'; cases he'
      rw [count_of hB hw]
      exact ⟨_, _, rfl⟩
  · cases h; exact ⟨_, _, rfl⟩
theorem len_slice {ts : Array TypeId} {x : Operand} {y : AX} {n : Nat} {T e : TypeId} (hx : chkX x y = true) (hts : ts.size = 1) (hd : P.underlying (ts.getD 0 0) = some (.slice e)) (W : WRel F ε s.hp w) (ht : TRel F ε s.tm a.tmps)
    (hn : (∃ k rs, s.ev y = .f (.sl k rs) ∧ n = rs.length) ∨ (∃ k, s.ev y = .sl0 k ∧ n = 0) ∨ (∃ id b, s.ev y = .vec id ∧ s.hp.at id = some b ∧ n = b.count ∧ b.width ≠ none) ∨ (∃ id o, s.ev y = .sub id o n)) :
    (Builtin.len_ ts T #[a.eval x]).run P w = .ok (.int .i64 n) w := by
  obtain ⟨ad, cap, hu⟩ := rel_slice_len W (ev_rel hx ht) hn
  obtain ⟨T0, rfl, hT0⟩ := size1 hts
  rw [hT0] at hd
  rw [hu]
  simp [Builtin.len_, run_underlying hd, goInt]
theorem rel_map {u : Value} {id : Nat} {es : List (List FV × AV)} (W : WRel F ε s.hp w) (h : VRel F ε (.mp id) u) (hat : s.hp.at id = some (.map es)) :
    ∃ l c ents clock, u = .map (some c) ∧ ε id = some l ∧ l.c = some c ∧ w.heap[c]? = some (.map ents clock) ∧ ents.size = es.length ∧
      ∀ (i : Nat) e m, es[i]? = some e → ents[i]? = some m → KRel F e.1 m.key ∧ VRel F ε e.2 m.val := by
  cases h with
  | mp hε hc =>
    rename_i c l
    obtain ⟨l', he', hB⟩ := W.blk id _ hat
    rw [hε] at he'; cases he'
    obtain ⟨c', ents, h1, h2, h3, h4⟩ := hB
    rw [hc] at h1; cases h1
    exact ⟨l, c, ents, es.length, rfl, hε, hc, h2, h3, fun i e m a b => ⟨(h4 i e m a b).1, (h4 i e m a b).2.1⟩⟩
theorem run_getObj {r : Nat} {ents : Array MapEntry} {clock : Nat} (h : w.heap[r]? = some (.map ents clock)) : (getObj r).run P w = .ok (.map ents clock) w := by
  simp only [getObj, Sem.run, h]
theorem len_map {ts : Array TypeId} {x : Operand} {y : AX} {n : Nat} {T k e : TypeId} (hx : chkX x y = true) (hts : ts.size = 1) (hd : P.underlying (ts.getD 0 0) = some (.map k e)) (W : WRel F ε s.hp w) (ht : TRel F ε s.tm a.tmps)
    (hn : (s.ev y = .f .nilm ∧ n = 0) ∨ (∃ id es, s.ev y = .mp id ∧ s.hp.at id = some (.map es) ∧ n = es.length)) :
    (Builtin.len_ ts T #[a.eval x]).run P w = .ok (.int .i64 n) w := by
  have h := ev_rel hx ht
  rcases hn with ⟨he, rfl⟩ | ⟨id, es, he, hat, rfl⟩
  · rw [he] at h
    have hu : a.eval x = .map none := by
      generalize a.eval x = q at h
      cases h with | f h => cases h; rfl
    obtain ⟨T0, rfl, hT0⟩ := size1 hts
    rw [hT0] at hd
    rw [hu]
    simp [Builtin.len_, run_underlying hd, goInt]
  · rw [he] at h
    obtain ⟨l, c, ents, clock, hu, _, _, hh, hsz, _⟩ := rel_map W h hat
    obtain ⟨T0, rfl, hT0⟩ := size1 hts
    rw [hT0] at hd
    rw [hu]
    simp [Builtin.len_, run_underlying hd, goInt, run_getObj hh, hsz]
theorem op_min {ts : Array TypeId} {args : Array Operand} {xs : List AX} {k : IntKind} {m n : Int} (ho : o.op = .call { callee := .builtin .min, args := args, argTypes := ts }) (hx : chkXs args.toList xs = true)
    (he : xs.map s.ev = [.f (.int k m), .f (.int k n)]) (W : WRel F ε s.hp w) (ht : TRel F ε s.tm a.tmps) : OpOk P o a F ε s.hp w (.f (.int k (if n < m then n else m))) s.hp := by
  have h := evs_rel hx ht
  rw [he] at h
  obtain ⟨u1, us1, h1, r1, h⟩ := h.cons_inv
  obtain ⟨u2, us2, h2, r2, h⟩ := h.cons_inv
  have := h.nil_inv
  subst this; subst h2
  rw [rel_int r1, rel_int r2] at h1
  refine gives_pure (run_builtin ho ?_) W (.f (.int _ _))
  simp only [builtin]
  refine run_v ?_
  have hm : (args.map a.eval).toList = [.int k m, .int k n] := by simpa using h1
  simp only [Builtin.min_, hm, List.foldlM_cons, List.foldlM_nil, Builtin.min2]
  simp
theorem op_max {ts : Array TypeId} {args : Array Operand} {xs : List AX} {k : IntKind} {m n : Int} (ho : o.op = .call { callee := .builtin .max, args := args, argTypes := ts }) (hx : chkXs args.toList xs = true)
    (he : xs.map s.ev = [.f (.int k m), .f (.int k n)]) (W : WRel F ε s.hp w) (ht : TRel F ε s.tm a.tmps) : OpOk P o a F ε s.hp w (.f (.int k (if m < n then n else m))) s.hp := by
  have h := evs_rel hx ht
  rw [he] at h
  obtain ⟨u1, us1, h1, r1, h⟩ := h.cons_inv
  obtain ⟨u2, us2, h2, r2, h⟩ := h.cons_inv
  have := h.nil_inv
  subst this; subst h2
  rw [rel_int r1, rel_int r2] at h1
  refine gives_pure (run_builtin ho ?_) W (.f (.int _ _))
  simp only [builtin]
  refine run_v ?_
  have hm : (args.map a.eval).toList = [.int k m, .int k n] := by simpa using h1
  simp only [Builtin.max_, hm, List.foldlM_cons, List.foldlM_nil, Builtin.max2]
  simp
theorem op_complex {ts : Array TypeId} {args : Array Operand} {y z : AX} {k : FloatKind} {m n : Nat} (ho : o.op = .call { callee := .builtin .complex, args := args, argTypes := ts }) (hx : chkXs args.toList [y, z] = true)
    (hy : s.ev y = .f (.float k m)) (hz : s.ev z = .f (.float k n)) (W : WRel F ε s.hp w) (ht : TRel F ε s.tm a.tmps) : OpOk P o a F ε s.hp w (.f (.complex k m n)) s.hp := by
  obtain ⟨x, u, h1, h2, h3⟩ := chk2 hx
  have := args2 h1
  subst this
  have r1 := ev_rel h2 ht; rw [hy] at r1
  have r2 := ev_rel h3 ht; rw [hz] at r2
  refine gives_pure (run_builtin ho ?_) W (.f (.complex _ _ _))
  simp only [builtin]
  refine run_v ?_
  have hm : (#[x, u].map a.eval) = #[.float k m, .float k n] := by simp [rel_float r1, rel_float r2]
  rw [hm]
  show ((if k = k then pure (.complex k m n) else stuck "complex: parts of different kinds" : Sem Value)).run P w = _
  rw [if_pos rfl]; rfl
theorem op_real {ts : Array TypeId} {args : Array Operand} {y : AX} {k : FloatKind} {m n : Nat} (ho : o.op = .call { callee := .builtin .real, args := args, argTypes := ts }) (hx : chkXs args.toList [y] = true)
    (hy : s.ev y = .f (.complex k m n)) (W : WRel F ε s.hp w) (ht : TRel F ε s.tm a.tmps) : OpOk P o a F ε s.hp w (.f (.float k m)) s.hp := by
  obtain ⟨x, h1, h2⟩ := chk1 hx
  have := args1 h1
  subst this
  have r1 := ev_rel h2 ht; rw [hy] at r1
  refine gives_pure (run_builtin ho ?_) W (.f (.float _ _))
  simp only [builtin]
  refine run_v ?_
  have hm : (#[x].map a.eval) = #[.complex k m n] := by simp [rel_complex r1]
  rw [hm]
  rfl
theorem op_imag {ts : Array TypeId} {args : Array Operand} {y : AX} {k : FloatKind} {m n : Nat} (ho : o.op = .call { callee := .builtin .imag, args := args, argTypes := ts }) (hx : chkXs args.toList [y] = true)
    (hy : s.ev y = .f (.complex k m n)) (W : WRel F ε s.hp w) (ht : TRel F ε s.tm a.tmps) : OpOk P o a F ε s.hp w (.f (.float k n)) s.hp := by
  obtain ⟨x, h1, h2⟩ := chk1 hx
  have := args1 h1
  subst this
  have r1 := ev_rel h2 ht; rw [hy] at r1
  refine gives_pure (run_builtin ho ?_) W (.f (.float _ _))
  simp only [builtin]
  refine run_v ?_
  have hm : (#[x].map a.eval) = #[.complex k m n] := by simp [rel_complex r1]
  rw [hm]
  rfl
end
end Go.Ab
