/- One operation: operators, conversions, addresses, parts. -/
import Derived.Test.YtgjconibaflaaaaGreatDoorAbOp2
namespace Go.Ab
open Go
set_option linter.unusedVariables false
set_option linter.unusedSimpArgs false
section
variable {P : Program} {F : Frz} {ε : Env} {w : World} {s s' : St} {a : Act} {o : Oper} {v : AV}

theorem op_bin {op : BinOp} {e : EqK} {t yt : TypeId} {x y : Operand} {x' y' : AX} (ho : o.op = .binOp op t x y yt) (he : eqOk P op t e = true) (hx : chkX x x' = true) (hy : chkX y y' = true)
    (hv : bin op e (s.ev x') (s.ev y') = some v) (W : WRel F ε s.hp w) (ht : TRel F ε s.tm a.tmps) : OpOk P o a F ε s.hp w v s.hp := by
  have h1 := ev_rel hx ht
  have h2 := ev_rel hy ht
  have fin : ∀ u, (∀ cs, a.eval x ≠ .agg cs) → a.eval x ≠ .nilIface → (binOp op t (a.eval x) (a.eval y)).run P w = .ok u w → VRel F ε v u → OpOk P o a F ε s.hp w v s.hp := by
    intro u n1 n2 hrun hrel
    refine gives_value (u := u) (w' := w) ?_ ⟨F, ε, .refl W, hrel⟩
    simp only [execOp, ho]
    exact run_v (by rw [Sem.run_bind, run_eqGuard n1 n2]; exact hrun)
  have nilcase : ∀ b1 b2, (op = .eql ∨ op = .neq) → isNil e (s.ev x') = some b1 → isNil e (s.ev y') = some b2 → (b1 || b2) = true →
      (eqOf op (b1 && b2)).map (fun t => AV.f (.bool t)) = some v → OpOk P o a F ε s.hp w v s.hp := by
    intro b1 b2 hop n1 n2 hb hv
    obtain ⟨m1, m2, m3⟩ := isNil_rel h1 n1
    obtain ⟨m4, m5, m6⟩ := isNil_rel h2 n2
    have hq := run_equal_nil (P := P) (w := w) he m1 m4 hb
    rcases hop with rfl | rfl
    · simp only [eqOf, Option.map_some, Option.some.injEq] at hv
      subst hv
      refine fin (.bool (b1 && b2)) m2 m3 ?_ (.f (.bool _))
      have : binOp .eql t (a.eval x) (a.eval y) = (do pure (.bool (← Op.equal t (a.eval x) (a.eval y)))) := by
        revert m1 m4
        cases e <;> cases a.eval x <;> simp only [nilB] <;> intro m1 <;> (try (cases m1; done)) <;> cases a.eval y <;> simp only <;> intro m4 <;> first | rfl | cases m4
      rw [this]
      simp [hq]
    · simp only [eqOf, Option.map_some, Option.some.injEq] at hv
      subst hv
      refine fin (.bool (!(b1 && b2))) m2 m3 ?_ (.f (.bool _))
      have : binOp .neq t (a.eval x) (a.eval y) = (do pure (.bool (!(← Op.equal t (a.eval x) (a.eval y))))) := by
        revert m1 m4
        cases e <;> cases a.eval x <;> simp only [nilB] <;> intro m1 <;> (try (cases m1; done)) <;> cases a.eval y <;> simp only <;> intro m4 <;> first | rfl | cases m4
      rw [this]
      simp [hq]
  unfold bin at hv
  split at hv
  · split at hv
    · rename_i z1 z2 e1 e2
      rw [e1] at h1; rw [e2] at h2
      cases h1 with
      | f r1 => cases h2 with
        | f r2 =>
          cases hz : binV op z1 z2 with
          | none => simp [hz] at hv
          | some z =>
            simp [hz] at hv
            subst hv
            obtain ⟨u, hrun, hrel, n1, n2⟩ := bin_scalar (P := P) (w := w) hz r1 r2 t
            exact fin u n1 n2 hrun (.f hrel)
    · cases hv
  · split at hv
    · rename_i b1 b2 e1 e2
      rw [e1] at h1; rw [e2] at h2
      have q1 := rel_bool h1
      have q2 := rel_bool h2
      simp only [eqOk, Bool.and_eq_true] at he
      have hb : P.underlying t = some .bool := by
        have := he.2
        split at this
        · assumption
        · cases this
      have hq : (Op.equal t (.bool b1) (.bool b2)).run P w = .ok (b1 == b2) w := by
        unfold Op.equal Op.maxDepth Op.equalIn
        simp [run_underlying hb]
      have hn : (∀ cs, a.eval x ≠ .agg cs) ∧ a.eval x ≠ .nilIface := by rw [q1]; exact ⟨(by intro _ e; cases e), (by intro e; cases e)⟩
      cases op <;> first
        | (simp only [eqOf] at hv; cases hv; done)
        | (simp only [eqOf, Option.map_some, Option.some.injEq] at hv
           subst hv
           refine fin (.bool _) hn.1 hn.2 ?_ (.f (.bool _))
           rw [q1, q2]
           simp [binOp, hq])
    · cases hv
  · rename_i hne1 hne2
    have hop : op = .eql ∨ op = .neq := by
      unfold eqOk at he
      cases e <;> simp only [Bool.and_eq_true] at he <;> first
        | (exact absurd rfl hne1)
        | (exact absurd rfl hne2)
        | (cases he; done)
        | (have := he.1; cases op <;> first | exact .inl rfl | exact .inr rfl | cases this)
    split at hv
    · rename_i b1 b2 n1 n2
      split at hv
      · rename_i hb
        exact nilcase b1 b2 hop n1 n2 hb hv
      · cases hv
    · cases hv
end
end Go.Ab
