/- Functions with proofs of their own: slices.Clone. -/
import Derived.Test.YtgjconibaflaaaaGreatDoorAbFun
import Derived.Test.YtgjconibaflaaaaGreatDoorAbPrimDefs
namespace Go.Ab
open Go
set_option linter.unusedVariables false
set_option linter.unusedSimpArgs false
section
variable {P : Program} {F : Frz} {ε : Env} {w : World} {a : Act} {o : Oper}
theorem run_eq_nil_slice {T e : TypeId} (hu : P.underlying T = some (.slice e)) (ad : Option Addr) (n c : Nat) : (Op.equal T (.slice ad n c) (.slice none 0 0)).run P w = .ok ad.isNone w := by
  unfold Op.equal Op.maxDepth Op.equalIn
  simp only [Sem.run_bind, run_underlying hu, Result.andThen_ok]
  cases ad <;> rfl
theorem op_eq_nil_slice {T e yT : TypeId} {x y : Operand} {ad : Option Addr} {n c : Nat} (ho : o.op = .binOp .eql T x y yT) (hu : P.underlying T = some (.slice e)) (hx : a.eval x = .slice ad n c) (hy : a.eval y = .slice none 0 0) :
    (execOp a.eval o).run P w = .ok (.value (.bool ad.isNone)) w := by
  simp only [execOp, ho]
  refine run_v ?_
  rw [Sem.run_bind, run_eqGuard (by rw [hx]; intro cs h; cases h) (by rw [hx]; intro h; cases h)]
  simp only [Result.andThen_ok, hx, hy]
  show (do pure (.bool (← Op.equal T (.slice ad n c) (.slice none 0 0))) : Sem Value).run P w = _
  simp [run_eq_nil_slice hu]
def cloneA1 (k : Nat) : AC := .region [⟨some 2, .mv (.c (.sl0 k)), none⟩] none [0]
def cloneA2 (k : Nat) : AC := .seq (.region [⟨some 2, .mv (.c (.sl0 k)), none⟩] none [2]) .ret
def cloneA3 (k bytes : Nat) : AC := .seq (.region [⟨some 5, .bslice k [], none⟩, ⟨some 6, .mv (.t 0), none⟩, ⟨some 7, .append k bytes (.t 5) (.t 6), none⟩, ⟨some 2, .mv (.t 7), none⟩] none [2]) .ret
def chkClone (P : Program) (f : FuncId) (k bytes : Nat) : Bool :=
  match P.funcs[f]? with
  | some fn => decide (fn.name ≠ "runtime.NumGoroutine") && chkRes P fn.results.toList [.tmp 2] && fn.ntmps == 8 && decide (0 < k) && decide (bytes ≤ 1024) && (match fn.body with
    | some (.seq r1 (.seq (.seq (.region _ os false) (.cond (.tmp 4) c1 .skip)) r3)) =>
      chkC P 8 (cloneA1 k) r1 && chkC P 8 (cloneA2 k) c1 && chkC P 8 (cloneA3 k bytes) r3 && (match os.toList with
        | [oB, oE] => chkO P 8 os oB ⟨some 3, .mv (.t 0), none⟩ && decide (oE.dst = some 4) && oE.guard.isNone && (match oE.op with
          | .binOp .eql T (.tmp 3) (.const (.slice none 0 0)) _ => (match P.underlying T with | some (.slice _) => true | _ => false)
          | _ => false)
        | _ => false)
    | _ => false)
  | none => false

def X0 : CallSem := fun _ _ _ => none
theorem X0_sound : Sound P X0 := fun f args h v h' hr => by cases hr
theorem clone_ok (hm : P.follows .mixedOrders = true) {f : FuncId} {k bytes : Nat} (hc : chkClone P f k bytes = true) : PrimOk P f (cloneP k) := by
  intro args h v h' hp F ε w us W ha
  unfold cloneP at hp
  split at hp <;> first | (cases hp; done) | skip
  rename_i x
  split at hp <;> first | (cases hp; done) | skip
  rename_i xs hxs
  split at hp <;> first | (cases hp; done) | skip
  rename_i hcd
  split at hp <;> first | (cases hp; done) | skip
  rename_i b hj
  simp only [Option.some.injEq, Prod.mk.injEq] at hp
  obtain ⟨rfl, rfl⟩ := hp
  obtain ⟨u, us', rfl, hu, hn⟩ := ha.cons_inv
  have := hn.nil_inv; subst this
  unfold chkClone at hc
  split at hc <;> first | (cases hc; done) | skip
  rename_i fn hfn
  simp only [Bool.and_eq_true, decide_eq_true_eq, beq_iff_eq] at hc
  obtain ⟨⟨⟨⟨⟨hname, hres⟩, hN⟩, hk0⟩, hby⟩, hbody⟩ := hc
  split at hbody <;> first | (cases hbody; done) | skip
  rename_i r1 id os c1 r3 hb
  simp only [Bool.and_eq_true] at hbody
  obtain ⟨⟨⟨k1, k2⟩, k3⟩, k4⟩ := hbody
  split at k4 <;> first | (cases k4; done) | skip
  rename_i oB oE hos
  simp only [Bool.and_eq_true, decide_eq_true_eq] at k4
  obtain ⟨⟨⟨q1, q2⟩, q3⟩, q4⟩ := k4
  have hsl : ∀ {F : Frz} {ε : Env} {v : Value}, VRel F ε x v → ∃ ad n c, v = .slice ad n c := by
    intro F ε v hv
    cases hv with
    | f h =>
      rename_i z
      cases z with
      | sl q rs => cases h <;> exact ⟨_, _, _, rfl⟩
      | str t => exact absurd hcd.1 (by simp [isStr])
      | _ => cases hxs
    | sl0 => exact ⟨_, _, _, rfl⟩
    | vec => exact ⟨_, _, _, rfl⟩
    | sub => exact ⟨_, _, _, rfl⟩
    | _ => cases hxs
  refine .inl ⟨⟨fn, hfn, hname, by rw [hb]; simp⟩, calls_of_wp hfn hb ?_⟩
  refine wp_seq ?_
  refine wp_mono (code_sound X0_sound hm (N := 8) (m := h.length) 5 (ac := cloneA1 k) (s := enter [x] h) (ex := .normal) (s' := ⟨[(0, x)], h⟩) rfl k1 (Nat.le_refl _) W (enter_rel ha _) (by simp; omega)) fun e a1 w1 q => ?_
  obtain ⟨hq, F1, ε1, p1, t1, n1, d1⟩ := q
  cases e <;> simp only [exRel] at hq
  refine wp_seq (wp_seq (wp_region_list ?_))
  rw [hos]
  simp only [wpList]
  refine step_sound X0_sound q1 (s := ⟨[(0, x)], h⟩) (s' := ⟨[(3, x), (0, x)], h⟩) rfl p1.W t1 n1 fun a2 w2 F2 ε2 p2 t2 n2 d2 => ?_
  have hw : Region.wanted oE (yielded os a2.tmps) = true := by
    unfold Region.wanted
    cases hg : oE.guard with
    | none => rfl
    | some g => rw [hg] at q3; cases q3
  rw [if_pos hw]
  left
  split at q4 <;> first | (cases q4; done) | skip
  rename_i T yT hop
  split at q4 <;> first | (cases q4; done) | skip
  rename_i el hu
  obtain ⟨ad, n, cp, hx3⟩ := hsl (t2 3)
  unfold Oper.wp
  rw [op_eq_nil_slice hop hu hx3 rfl]
  let a3 := a2.put oE.dst (.bool ad.isNone)
  have h4 : a3.eval (.tmp 4) = .bool ad.isNone := by
    show (a2.put oE.dst _).tmps.getD 4 undef = _
    rw [put_getD (by intro y hy; rw [q2] at hy; cases hy; omega), if_pos q2]
  have t3 : TRel F2 ε2 [(0, x)] a3.tmps := by
    intro t
    show VRel F2 ε2 _ ((a2.put oE.dst _).tmps.getD t undef)
    rw [put_getD (by intro y hy; rw [q2] at hy; cases hy; omega), q2]
    by_cases h0 : t = 0
    · subst h0
      have := t2 0
      simpa [look] using this
    · simp only [look, if_neg h0]; exact .dead _
  have n3 : 8 ≤ a3.tmps.size := by rw [put_size]; exact n2
  have d3 : a3.defers = a2.defers := put_defers _ _ _
  have p12 : PostM h.length F ε h w F2 ε2 h w2 := p1.trans (p2.toM p1.len)
  have dall : a3.defers = [] := by rw [d3, d2, d1]
  show (Code.cond (.tmp 4) c1 .skip).wp P _ a3 w2
  refine wp_cond h4 ?_
  cases ad with
  | none =>
    show c1.wp P _ a3 w2
    refine wp_mono (code_sound X0_sound hm (N := 8) (m := h.length) 5 (ac := cloneA2 k) (s := ⟨[(0, x)], h⟩) (ex := .ret) (s' := ⟨[(2, .sl0 k)], h⟩) rfl k2 (Nat.le_refl _) p2.W t3 n3) fun e a4 w4 q => ?_
    obtain ⟨hq, F4, ε4, p4, t4, n4, d4⟩ := q
    cases e <;> simp only [exRel] at hq
    obtain ⟨u4, r4, v4⟩ := results_run (P := P) (s := ⟨[(2, .sl0 k)], h⟩) (vs := [.sl0 k]) p4.W t4 hres rfl
    have hcnt : xs.count = 0 := by
      obtain ⟨vs, e1, e2, e3, e4⟩ := cont_rel (P := P) (s := ⟨[], h⟩) p2.W (t2 3) hxs hcd.2.2.1
      have := e4 xs.count (Nat.le_refl _) w2 rfl
      rw [hx3] at this
      simp only [Builtin.firstCells, Sem.run_pure, Result.ok.injEq, and_true] at this
      have hl := congrArg Array.size this
      simp only [List.size_toArray, List.length_take, e1.1, ← e3, Array.size_empty, Nat.min_self] at hl
      rcases Nat.mul_eq_zero.1 hl.symm with h0 | h0
      · exact h0
      · omega
    obtain ⟨k', j1, j2, j3, j4⟩ := join_ofB hj
    have hkk : k' = k := by rw [hcd.2.2.1] at j2; cases j2; rfl
    rw [hkk] at j3
    have hb0 : (ofB b).length = 0 := by rw [j4, List.length_append, ofB_count hcd.2.2.1, hcnt]; rfl
    obtain ⟨δ, l, g1, g2, g3, g4, g5, g6, g7, g8, g9⟩ := p4.W.nameV k b (empty_blk j3 hb0)
    have v4' : VRel F4 ε4 (.sl0 k) u4 := v4
    cases v4' with
    | sl0 _ ad' =>
      have p5 : PostM h.length F4 ε4 h w4 F4 δ (h ++ [some b]) w4 := ⟨FGrow.refl _ _ _ _, g7, by simp, g8, Fr.refl _ _ _, fun c _ ho => g9 c ho⟩
      refine ⟨d4.trans dall, _, r4, _, rfl, F4, δ, ((p12.trans p4).trans p5).post, ?_⟩
      have := VRel.vec (F := F4) (ε := δ) (l := l) (a := ad') g2 (by unfold SlAt; rw [g3]; exact g5)
      rw [g4, g5] at this
      exact this
  | some adr =>
    show Code.skip.wp P _ a3 w2
    refine wp_skip ?_
    show r3.wp P _ a3 w2
    refine wp_mono (code_sound X0_sound hm (N := 8) (m := h.length) 5 (ac := cloneA3 k bytes) (s := ⟨[(0, x)], h⟩) (ex := .ret) (s' := ⟨[(2, .vec h.length)], h ++ [some b]⟩) ?_ k3 (Nat.le_refl _) p2.W t3 n3) fun e a4 w4 q => ?_
    · obtain ⟨c1, c2, c3, c4⟩ := hcd
      simp [cloneA3, exec, runR, runOps, stepO, wanted, opE, St.ev, look, St.put, hxs, c2, c3, c4, hby, hj, St.keep]
    · obtain ⟨hq, F4, ε4, p4, t4, n4, d4⟩ := q
      cases e <;> simp only [exRel] at hq
      obtain ⟨u4, r4, v4⟩ := results_run (P := P) (s := ⟨[(2, .vec h.length)], h ++ [some b]⟩) (vs := [.vec h.length]) p4.W t4 hres rfl
      exact ⟨d4.trans dall, u4, r4, u4, rfl, F4, ε4, (p12.trans p4).post, v4⟩
end
end Go.Ab
