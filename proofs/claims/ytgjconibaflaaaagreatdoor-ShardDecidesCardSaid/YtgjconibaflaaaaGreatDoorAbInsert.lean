/- slices.Insert at one element: what it answers, whatever room there is. -/
import Derived.Test.YtgjconibaflaaaaGreatDoorAbExt
import Derived.Lib.AppendZerosOnto
import Derived.Lib.Overlaps
namespace Go.Ab
open Go
set_option linter.unusedVariables false
set_option linter.unusedSimpArgs false

/-- Where a walk is: in a state that the abstract machine knows. -/
def At (N m : Nat) (F0 : Frz) (ε0 : Env) (h0 : Heap) (w0 : World) (ds : List Deferred) (s : St) (a : Act) (w : World) : Prop :=
  ∃ F ε, PostM m F0 ε0 h0 w0 F ε s.hp w ∧ TRel F ε s.tm a.tmps ∧ N ≤ a.tmps.size ∧ a.defers = ds
section
variable {P : Program} {X : CallSem} {N m : Nat} {F0 : Frz} {ε0 : Env} {h0 : Heap} {w0 : World} {ds : List Deferred} {s s' : St} {a : Act} {w : World} {ops : Array Oper} {o : Oper}
theorem At.code (hX : Sound P X) (hm : P.follows .mixedOrders = true) {n : Nat} {ac : AC} {c : Code} {ex : Ex} (A : At N m F0 ε0 h0 w0 ds s a w) (hr : exec X m n ac s = some (ex, s')) (hc : chkC P N ac c = true)
    {Q : Exit → Act → World → Prop} (hQ : ∀ e a' w', exRel ex e → At N m F0 ε0 h0 w0 ds s' a' w' → Q e a' w') : c.wp P Q a w := by
  obtain ⟨F, ε, p, t, n1, d⟩ := A
  refine wp_mono (code_sound hX hm n hr hc p.len p.W t n1) fun e a' w' q => ?_
  obtain ⟨hq, F', ε', p', t', n', d'⟩ := q
  exact hQ e a' w' hq ⟨F', ε', p.trans p', t', n', d'.trans d⟩
theorem At.op (hX : Sound P X) {ao : AO} (A : At N m F0 ε0 h0 w0 ds s a w) (hc : chkO P N ops o ao = true) (hr : stepO X ao s = some s') {next : Act → World → Prop} {Q : Exit → Act → World → Prop}
    (hn : ∀ a' w', At N m F0 ε0 h0 w0 ds s' a' w' → next a' w') : (if Region.wanted o (yielded ops a.tmps) then o.wp P a w next Q ∨ (o.asks P a w ∧ LetsOut Q) else next (a.put o.dst undef) w) := by
  obtain ⟨F, ε, p, t, n1, d⟩ := A
  exact step_sound hX hc hr p.W t n1 fun a' w' F' ε' p' t' n' d' => hn a' w' ⟨F', ε', p.trans (p'.toM p.len), t', n', d'.trans d⟩
/-- An operation with a proof of its own. -/
theorem At.cust {d : Nat} {v : AV} {h' : Heap} (A : At N m F0 ε0 h0 w0 ds s a w) (hg : o.guard.isNone = true) (hd : o.dst = some d) (hdN : d < N)
    (hop : ∀ F ε, PostM m F0 ε0 h0 w0 F ε s.hp w → TRel F ε s.tm a.tmps → OpOk P o a F ε s.hp w v h') {next : Act → World → Prop} {Q : Exit → Act → World → Prop}
    (hn : ∀ a' w', At N m F0 ε0 h0 w0 ds ⟨(d, v) :: s.tm, h'⟩ a' w' → next a' w') : (if Region.wanted o (yielded ops a.tmps) then o.wp P a w next Q ∨ (o.asks P a w ∧ LetsOut Q) else next (a.put o.dst undef) w) := by
  obtain ⟨F, ε, p, t, n1, dd⟩ := A
  have hw : Region.wanted o (yielded ops a.tmps) = true := by
    unfold Region.wanted
    cases hgg : o.guard with
    | none => rfl
    | some g => rw [hgg] at hg; cases hg
  rw [if_pos hw]
  left
  refine hop F ε p t next Q fun u w' ⟨F', ε', p', v'⟩ => hn _ _ ⟨F', ε', p.trans (p'.toM p.len), ?_, ?_, ?_⟩
  · rw [hd]
    exact (t.mono p'.le (p'.envle p.W)).put (by omega) v'
  · rw [put_size]; exact n1
  · rw [put_defers]; exact dd
/-- A block is known in other words. -/
theorem WRel.reblk {F : Frz} {ε : Env} {h : Heap} {w : World} (W : WRel F ε h w) {id k : Nat} {B B' : Blk} (hB : h.at id = some B) (h1 : B.width = some k) (h2 : B'.width = some k) (he : ofB B' = ofB B) : WRel F ε (h.set id (some B')) w := by
  have hat : ∀ i C, Heap.at (h.set id (some B')) i = some C → ∃ C0, h.at i = some C0 ∧ ((i = id ∧ C = B') ∨ C0 = C) := by
    intro i C hC
    rw [Heap.at_set] at hC
    split at hC
    · rename_i hi
      cases hC
      obtain ⟨rfl, _⟩ := hi
      exact ⟨B, hB, .inl ⟨rfl, rfl⟩⟩
    · exact ⟨C, hC, .inr rfl⟩
  refine ⟨W.frz, fun i C hC => ?_, fun i C l c hC he' hc => ?_, fun i j C D l l' c hC hD e1 e2 c1 c2 => ?_, fun i hi => W.dom i (by simpa using hi)⟩
  · obtain ⟨C0, hC0, hcase⟩ := hat i C hC
    rcases hcase with ⟨rfl, rfl⟩ | rfl
    · obtain ⟨l, e1, e2⟩ := W.blk i B hB
      exact ⟨l, e1, (brel_iff h2).2 (by rw [he]; exact (brel_iff h1).1 e2)⟩
    · exact W.blk i _ hC0
  · obtain ⟨C0, hC0, _⟩ := hat i C hC
    exact W.sep i C0 l c hC0 he' hc
  · obtain ⟨C0, hC0, _⟩ := hat i C hC
    obtain ⟨D0, hD0, _⟩ := hat j D hD
    exact W.inj i j C0 D0 l l' c hC0 hD0 e1 e2 c1 c2
theorem At.reblk {id k : Nat} {B B' : Blk} (A : At N m F0 ε0 h0 w0 ds s a w) (hB : s.hp.at id = some B) (h1 : B.width = some k) (h2 : B'.width = some k) (he : ofB B' = ofB B) : At N m F0 ε0 h0 w0 ds ⟨s.tm, s.hp.set id (some B')⟩ a w := by
  obtain ⟨F, ε, p, t, n1, d⟩ := A
  refine ⟨F, ε, p.trans ⟨FGrow.refl _ _ _ _, fun _ _ => rfl, by simpa using p.len, p.W.reblk hB h1 h2 he, Fr.refl _ _ _, fun b _ ⟨i, C, l, q1, q2, q3⟩ => ?_⟩, t, n1, d⟩
  simp only at q1
  rw [Heap.at_set] at q1
  split at q1
  · rename_i hi; obtain ⟨rfl, _⟩ := hi; exact ⟨i, B, l, hB, q2, q3⟩
  · exact ⟨i, C, l, q1, q2, q3⟩
/-- A block is no longer one's own. -/
theorem At.drop (A : At N m F0 ε0 h0 w0 ds s a w) (id : Nat) : At N m F0 ε0 h0 w0 ds ⟨s.tm, s.hp.set id none⟩ a w := by
  obtain ⟨F, ε, p, t, n1, d⟩ := A
  obtain ⟨WD, OD⟩ := p.W.drop id
  exact ⟨F, ε, p.trans ⟨FGrow.refl _ _ _ _, fun _ _ => rfl, by simpa using p.len, WD, Fr.refl _ _ _, OD⟩, t, n1, d⟩

/-! ### slices.overlaps: two blocks of one's own -/
theorem shape_cells {b : Nat} {ar : Array Value} {e : TypeId} {fr : Nat × Nat} (h : w.heap[b]? = some (.cells ar e fr)) : w.shape? b = some (e, ar.size) := by
  simp [World.shape?, h]
theorem frozen_cells {b off : Nat} {ar : Array Value} {e : TypeId} (h : w.heap[b]? = some (.cells ar e (0, 0))) : w.frozen? ⟨b, off, none⟩ = false := by
  simp [World.frozen?, h]
theorem run_ovl {F : Frz} {ε : Env} {h : Heap} {tS tR e : TypeId} {k i j o n : Nat} {b c : Blk} {u u2 : Value} (hu : P.underlying tS = some (.slice e)) (hk : sizeIs P e k = true) (W : WRel F ε h w) (hu1 : VRel F ε (.vec i) u) (hu2 : VRel F ε (.sub j o n) u2)
    (hi : h.at i = some b) (hj : h.at j = some c) (hne : i ≠ j) (hbw : b.width = some k) (hcw : c.width = some k) (hk0 : 0 < k) (hb0 : 0 < b.count) (hn0 : 0 < n) : (Extern.SlicesOverlaps.overlaps #[tS, tS] #[tR] #[u, u2]).run P w = .ok (.bool false) w := by
  cases hu1 with
  | vec e1 s1 =>
    rename_i l1 ad1
    cases hu2 with
    | sub e2 hle s2 =>
      rename_i l2 ad2
      obtain ⟨l1', g1, B1⟩ := W.blk i b hi
      rw [e1] at g1; cases g1
      obtain ⟨l2', g2, B2⟩ := W.blk j c hj
      rw [e2] at g2; cases g2
      have hsz : ∀ w, (Go.sizeOf e).run P w = .ok k w := fun w => run_size hk
      have q1 := loc_le B1 (by rw [hbw]; simp)
      have q2 := loc_le B2 (by rw [hcw]; simp)
      have C1 := (brel_iff hbw).1 B1
      have C2 := (brel_iff hcw).1 B2
      obtain ⟨_, _, _, _, m1⟩ := C1
      obtain ⟨_, _, _, _, m2⟩ := C2
      unfold SlAt at s1 s2
      cases hc1 : l1.c with
      | none => rw [hc1] at m1; have : l1.C = 0 := m1; omega
      | some c1 =>
        cases hc2 : l2.c with
        | none => rw [hc2] at m2; have : l2.C = 0 := m2; omega
        | some c2 =>
          simp only [hc1] at m1 s1
          simp only [hc2] at m2 s2
          obtain ⟨ar1, t1, hh1, z1, _⟩ := m1
          obtain ⟨ar2, t2, hh2, z2, _⟩ := m2
          have a1 := s1.resolve_left (by omega)
          have a2 := s2.resolve_left (by omega)
          subst a1 a2
          have hcc : c1 ≠ c2 := fun e' => by subst e'; exact hne (W.inj i j b c l1 l2 c1 hi hj e1 e2 hc1 hc2)
          refine Lib.run_overlaps_apart w tS tR e hu k hsz _ _ _ _ _ _ hcc t1 t2 ar1.size ar2.size (shape_cells hh1) (shape_cells hh2) ?_ (frozen_cells hh1) (frozen_cells hh1)
          have hCk : 0 < l2.C * k := Nat.mul_pos (by omega) hk0
          omega
theorem op_ovl {F : Frz} {ε : Env} {fo : FuncId} {fn : Func} {tS tR e : TypeId} {k i j q n : Nat} {b c : Blk} {ts : Array TypeId} {args : Array Operand} {x u : Operand} {y z : AX} (ho : o.op = .call { callee := .value (.func fo), args := args, argTypes := ts }) (has : args = #[x, u])
    (hx : chkX x y = true) (hu' : chkX u z = true) (hf : P.funcs[fo]? = some fn) (hname : (fn.name == "runtime.NumGoroutine") = false) (hb : fn.body.isNone = true) (hn : Extern.findNext fn = none) (he : Extern.find fn = some (Extern.SlicesOverlaps.overlaps #[tS, tS] #[tR]))
    (hu : P.underlying tS = some (.slice e)) (hk : sizeIs P e k = true) (hv1 : s.ev y = .vec i) (hv2 : s.ev z = .sub j q n) (hi : s.hp.at i = some b) (hj : s.hp.at j = some c) (hne : i ≠ j) (hbw : b.width = some k) (hcw : c.width = some k) (hk0 : 0 < k) (hb0 : 0 < b.count) (hn0 : 0 < n)
    (W : WRel F ε s.hp w) (ht : TRel F ε s.tm a.tmps) : OpOk P o a F ε s.hp w (.f (.bool false)) s.hp := by
  have r1 := ev_rel hx ht
  have r2 := ev_rel hu' ht
  rw [hv1] at r1
  rw [hv2] at r2
  have hrun := run_ovl (tR := tR) hu hk W r1 r2 hi hj hne hbw hcw hk0 hb0 hn0
  subst has
  refine gives_value (w' := w) (u := .bool false) ?_ ⟨F, ε, .refl W, .f (.bool _)⟩
  simp only [execOp, ho, resolve, Act.eval, Frame.eval, Deferred.ofValue, Sem.run_bind, Sem.run_pure, Result.andThen_ok, invoke, Array.empty_append, Array.append_empty]
  have e4 : Array.map a.eval #[x, u] = #[a.eval x, a.eval u] := by simp
  rw [e4, run_callFunc_extern hf hname hb hn he]
  show ((Extern.SlicesOverlaps.overlaps #[tS, tS] #[tR] #[a.eval x, a.eval u]).run P w).andThen _ = _
  rw [hrun]; rfl
/-- cap of a slice. -/
theorem op_cap {F : Frz} {ε : Env} {t : TypeId} {ts : Array TypeId} {args : Array Operand} {x : Operand} {e : TypeId} {ad : Option Addr} {n C : Nat} (ho : o.op = .call { callee := .builtin .cap, args := args, argTypes := ts })
    (has : args = #[x]) (hts : ts = #[t]) (hu : P.underlying t = some (.slice e)) (hx : a.eval x = .slice ad n C) (W : WRel F ε s.hp w) : OpOk P o a F ε s.hp w (.f (.int .i64 C)) s.hp := by
  subst has hts
  refine gives_value (run_builtin (P := P) (w := w) (a := a) (b := .cap) (args := #[x]) (ts := #[t]) (u := .int .i64 C) (w' := w) ho (by
    simp only [builtin]
    refine run_v ?_
    simp [Builtin.cap_, run_underlying hu, hx, goInt])) ⟨F, ε, .refl W, .f (.int _ _)⟩
/-- A slice past its length. -/
theorem op_slext {F : Frz} {ε : Env} {t e : TypeId} {k id n q : Nat} {x hi : Operand} {y hi' : AX} {l : Loc} {b : Blk} (ho : o.op = .slice t x none (some hi) none) (hx : chkX x y = true) (hhi : chkX hi hi' = true)
    (hu : P.underlying t = some (.slice e)) (hk : sizeIs P e k = true) (hv : s.ev y = .vec id) (hat : s.hp.at id = some b) (hbk : b.width = some k) (hel : ε id = some l) (hn : s.ev hi' = .f (.int .i64 (n + q : Nat))) (hcnt : b.count = n) (hroom : n + q ≤ l.C) (hk0 : 0 < k) (hq0 : 0 < q)
    (W : WRel F ε s.hp w) (ht : TRel F ε s.tm a.tmps) : OpOk P o a F ε s.hp w (.vec s.hp.length) (s.hp.set id none ++ [some (.rows k (ofB b ++ List.replicate q (List.replicate k .dead)))]) := by
  have r := ev_rel hx ht
  rw [hv] at r
  generalize hqe : a.eval x = u at r
  cases r with
  | vec e1 s1 =>
    rename_i l1 ad
    rw [hel] at e1; cases e1
    obtain ⟨l', g1, B1⟩ := W.blk id b hat
    rw [hel] at g1; cases g1
    obtain ⟨h1, h2, h3⟩ := loc_le B1 (by rw [hbk]; simp)
    rw [hbk] at h3; cases h3
    have C1 := (brel_iff hbk).1 B1
    obtain ⟨c1, c2, c3, c4, m1⟩ := C1
    unfold SlAt at s1
    cases hc : l.c with
    | none => rw [hc] at m1; have : l.C = 0 := m1; omega
    | some c =>
      simp only [hc] at m1 s1
      obtain ⟨ar, et, hh, hz, hcell⟩ := m1
      have had := s1.resolve_left (by omega)
      subst had
      have hrun := run_slice (P := P) (w := w) (s := s) (lo := none) (hi := some hi) (lo' := none) (hi' := some hi') (l := 0) (h := n + q) ho rfl hhi hu hk hqe rfl (by simp only [bound, hn, asInt]; rw [if_pos (by omega), Int.toNat_natCast]) (Nat.zero_le _) hroom h1 ht
      obtain ⟨WD, OD⟩ := W.drop id
      have hDlen : (s.hp.set id none).length = s.hp.length := by simp
      obtain ⟨δ, d1, d2, d3, d4, d5⟩ := WD.name (.rows l.k (ofB b ++ List.replicate q (List.replicate l.k .dead))) ⟨some c, l.base, l.k, n + q, l.C⟩ (fun c' hc' => by
        cases hc'
        refine ⟨W.blk_lt hat hel hc, W.sep id b l c hat hel hc, fun j B' lj hj ej hcj => ?_⟩
        rw [Heap.at_set] at hj
        split at hj
        · cases hj
        · rename_i hne
          have := W.inj id j b B' l lj c hat hj hel ej hc hcj
          exact hne ⟨this.symm, Heap.at_lt hat⟩) (fun δ hle => by
        refine ⟨rfl, by simp [ofB_count hbk, hcnt], ?_, hroom, ?_⟩
        · intro r hr
          rcases List.mem_append.1 hr with hr | hr
          · exact c3 r hr
          · rw [(List.mem_replicate.1 hr).2]; simp
        · refine ⟨ar, et, hh, hz, fun i j x hx => ?_⟩
          obtain ⟨r, hr, hj⟩ := at2_lt hx
          have hlen : (ofB b).length = n := by rw [ofB_count hbk, hcnt]
          rw [List.getElem?_append] at hr
          split at hr
          · obtain ⟨u, u1, u2⟩ := hcell i j x (by unfold at2; rw [hr]; exact hj)
            exact ⟨u, u1, u2.mono (Frz.le_refl _) hle⟩
          · rename_i hge
            have hi2 : i - (ofB b).length < q := by
              have := (List.getElem?_eq_some_iff.1 hr).1
              simpa using this
            rw [List.getElem?_replicate, if_pos hi2] at hr
            cases hr
            have hj2 : j < l.k := by
              have := (List.getElem?_eq_some_iff.1 hj).1
              simpa using this
            rw [List.getElem?_replicate, if_pos hj2] at hj
            cases hj
            have hlt : l.base + i * l.k + j < ar.size := by
              have : (i + 1) * l.k ≤ l.C * l.k := Nat.mul_le_mul_right _ (by omega)
              rw [Nat.add_mul] at this
              omega
            exact ⟨ar[l.base + i * l.k + j], by simp [hlt], .dead _⟩)
      refine gives_value hrun ⟨F, δ, ⟨FGrow.refl _ _ _ _, fun i hi => by rw [d3 i (by rw [hDlen]; exact hi)], by simp, d4, Fr.refl _ _ _, fun b' hb' ho' => ?_⟩, ?_⟩
      · rcases d5 b' ho' with h2 | h2
        · exact OD b' hb' h2
        · cases h2
          exact ⟨id, b, l, hat, hel, hc⟩
      · rw [hDlen] at d2
        have hC0 : l.C ≠ 0 := by omega
        have := VRel.vec (F := F) (ε := δ) (id := s.hp.length) (l := ⟨some c, l.base, l.k, n + q, l.C⟩) (a := some ⟨c, l.base, none⟩) d2 (by unfold SlAt; right; simp)
        simpa [hC0, add_eq] using this

theorem flat_dead {F : Frz} {ε : Env} {k n : Nat} {us : List Value} (h : us.length = n * k) : Flat F ε k (List.replicate n (List.replicate k .dead)) us := by
  refine ⟨by simpa using h, fun r hr => by rw [(List.mem_replicate.1 hr).2]; simp, fun i j x u hx hu => ?_⟩
  obtain ⟨r, hr, hj⟩ := at2_lt hx
  rw [List.getElem?_replicate] at hr
  split at hr <;> first | (cases hr; done) | skip
  cases hr
  rw [List.getElem?_replicate] at hj
  split at hj <;> first | (cases hj; done) | skip
  cases hj
  exact .dead _
/-- Zeros behind a part of a block, where there is no room. -/
theorem op_app0 {F : Frz} {ε : Env} {t tn e : TypeId} {inf : TypeInfo} {z : Value} {kn : IntKind} {k id i q : Nat} {ts : Array TypeId} {args : Array Operand} {x u : Operand} {y q' : AX} {l : Loc} {b : Blk} (ho : o.op = .call { callee := .builtin .append, args := args, argTypes := ts })
    (hts : ts = #[t, tn]) (has : args = #[x, u]) (hx : chkX x y = true) (hu : chkX u q' = true) (ht' : P.underlying t = some (.slice e)) (htn : P.underlying tn = some (.int kn)) (hi : P.info? e = some inf) (hz : inf.zero = some z) (hik : inf.size = k) (hzk : z.cells.size = k) (hb : inf.bytes ≤ 1024)
    (hv : s.ev y = .sub id 0 i) (hat : s.hp.at id = some b) (hbk : b.width = some k) (hel : ε id = some l) (hn : s.ev q' = .f (.int .i64 (q : Nat))) (hle : i ≤ b.count) (hno : l.C < i + q) (hk0 : 0 < k) (hq0 : 0 < q) (hlim : i + q ≤ 2 ^ 36)
    (W : WRel F ε s.hp w) (ht : TRel F ε s.tm a.tmps) : OpOk P o a F ε s.hp w (.vec s.hp.length) (s.hp ++ [some (.rows k ((ofB b).take i ++ List.replicate q (List.replicate k .dead)))]) := by
  have r := ev_rel hx ht
  rw [hv] at r
  have r2 := ev_rel hu ht
  rw [hn] at r2
  have e2 : a.eval u = .int .i64 q := by
    generalize a.eval u = z at r2
    cases r2 with | f h => cases h; rfl
  generalize hqe : a.eval x = xv at r
  cases r with
  | sub e1 hle1 s1 =>
    rename_i l1 ad
    rw [hel] at e1; cases e1
    obtain ⟨l', g1, B1⟩ := W.blk id b hat
    rw [hel] at g1; cases g1
    obtain ⟨h1, h2, h3⟩ := loc_le B1 (by rw [hbk]; simp)
    have hcr := (brel_iff hbk).1 B1
    obtain ⟨os, o1, o2⟩ := view_rel (P := P) (C := l.C - 0) hcr (off := 0) (n := i) (by omega) s1
    rw [List.drop_zero] at o1
    have hol : os.length = i * k := by rw [o1.1]; congr 1; rw [List.length_take, ofB_count hbk]; omega
    subst hts has
    have hcapq : q * inf.bytes ≤ 281474976710656 := calc q * inf.bytes ≤ 2 ^ 36 * 1024 := Nat.mul_le_mul (by omega) hb
      _ ≤ _ := by decide
    have hrun := Lib.run_append_grow_zeros w t tn o.type e inf z .i64 kn ht' htn hi hz ad i (l.C - 0) os (by
      rw [hik, o2 i (Nat.le_refl _) w.drew rfl]
      congr 2
      exact List.take_of_length_le (by rw [hol]; exact Nat.le_refl _)) q hq0 (by omega) (by omega) (by omega) hcapq (nextcap_ok (by omega) hlim hb)
    obtain ⟨F', ε', p1, p2⟩ := append_grow (e := e) (h1 := s.hp) (w := w.drew) (W.drew _) (b' := .rows k ((ofB b).take i ++ List.replicate q (List.replicate k .dead))) (xs := .rows k (List.replicate q (List.replicate k .dead))) (n := i) (m := q) (rs := (ofB b).take i) (us := (Builtin.zeroCells z.cells q).toList) (os := os)
      (zs := (Builtin.zeroCells z.cells (grownCap w (i + q) (l.C - 0) e - (i + q))).toList) (cap := grownCap w (i + q) (l.C - 0) e) (by simp [Blk.count]) (by rw [List.length_take, ofB_count hbk]; omega) rfl rfl rfl o1 (flat_dead (by rw [zeroCells_len, hzk]))
      (grown_le _ _ _ _) (by rw [zeroCells_len, hzk])
    have e3 : os.toArray ++ Builtin.zeroCells z.cells q = (os ++ (Builtin.zeroCells z.cells q).toList).toArray := by
      apply Array.ext'; simp
    have e4 : Array.map a.eval #[x, u] = #[.slice ad i (l.C - 0), .int .i64 q] := by simp [hqe, e2]
    have e5 : ∀ ar : Array Value, ar.toList.toArray = ar := fun ar => by simp
    rw [e3] at hrun
    rw [e5] at p1
    exact gives_value (run_builtin (P := P) (w := w) (a := a) (b := .append) (args := #[x, u]) (ts := #[t, tn]) ho (by
      simp only [builtin]
      exact run_v (by rw [e4]; exact hrun))) ⟨F', ε', (Post.drew W).trans p1, p2⟩
end
end Go.Ab
