/- Operations one behind the other. -/
import Derived.Test.YtgjconibaflaaaaGreatDoorAbDisp
import Derived.Tactics
namespace Go.Ab
open Go
set_option linter.unusedVariables false
set_option linter.unusedSimpArgs false

def chkO (P : Program) (N : Nat) (ops : Array Oper) (o : Oper) (ao : AO) : Bool :=
  decide (o.dst = ao.dst) && (match ao.dst with | some d => decide (d < N) | none => true) &&
  (match o.guard, ao.guard with
    | none, none => true
    | some (j, b), some (t, b') => (b == b') && decide ((ops[j]?).bind (·.dst) = some t) && decide (t < N)
    | _, _ => false) && chkOp P o.op ao.op
def chkL (P : Program) (N : Nat) (ops : Array Oper) : List Oper → List AO → Bool
  | [], [] => true
  | o :: l, ao :: r => chkO P N ops o ao && chkL P N ops l r
  | _, _ => false
section
variable {P : Program} {X : CallSem} {F : Frz} {ε : Env} {w : World} {s s' : St} {a : Act} {o : Oper} {ao : AO} {v : AV} {N : Nat} {ops : Array Oper}
theorem wanted_rel (hc : chkO P N ops o ao = true) {b : Bool} (hw : wanted s ao.guard = some b) (ht : TRel F ε s.tm a.tmps) (hN : N ≤ a.tmps.size) : Region.wanted o (yielded ops a.tmps) = b := by
  simp only [chkO, Bool.and_eq_true] at hc
  have hg := hc.1.2
  clear hc
  unfold Region.wanted
  generalize o.guard = og at *
  generalize ao.guard = ag at *
  cases og with
  | none =>
    cases ag with
    | none => simpa [wanted] using hw
    | some p => cases hg
  | some p =>
    cases ag with
    | none => cases hg
    | some q =>
      obtain ⟨j, b1⟩ := p
      obtain ⟨t, b2⟩ := q
      simp only [Bool.and_eq_true, beq_iff_eq, decide_eq_true_eq] at hg
      obtain ⟨⟨rfl, hd⟩, hlt⟩ := hg
      have hv := ht t
      have hget : a.tmps[t]? = some (a.tmps.getD t undef) := by
        have : t < a.tmps.size := by omega
        simp [Array.getD, this]
      simp only [wanted] at hw
      split at hw
      · rename_i b3 hl
        rw [hl] at hv
        have := rel_bool hv
        rw [this] at hget
        simp only [Option.some.injEq] at hw
        subst hw
        simp only [yielded, hd, Option.bind_some, hget]
        cases b1 <;> cases b3 <;> rfl
      · rename_i hl
        rw [hl] at hv
        obtain ⟨us, h3, _⟩ := rel_tup hv
        rw [h3] at hget
        simp only [Option.some.injEq] at hw
        subst hw
        simp only [yielded, hd, Option.bind_some, hget]
        rfl
      · cases hw
theorem put_size (a : Act) (d : Option Nat) (u : Value) : (a.put d u).tmps.size = a.tmps.size := by cases d <;> simp [Act.put]
theorem put_defers (a : Act) (d : Option Nat) (u : Value) : (a.put d u).defers = a.defers := by cases d <;> rfl
theorem put_rel (hc : chkO P N ops o ao = true) (ht : TRel F ε s.tm a.tmps) (hN : N ≤ a.tmps.size) {u : Value} (hv : VRel F ε v u) : TRel F ε (s.put ao.dst v).tm (a.put o.dst u).tmps := by
  simp only [chkO, Bool.and_eq_true, decide_eq_true_eq] at hc
  obtain ⟨⟨⟨h1, h2⟩, _⟩, _⟩ := hc
  rw [h1]
  cases hd : ao.dst with
  | none => exact ht
  | some d =>
    rw [hd] at h2
    exact ht.put (by simp only [decide_eq_true_eq] at h2; omega) hv
theorem put_hp (s : St) (d : Option Nat) (v : AV) : (s.put d v).hp = s.hp := by cases d <;> rfl
theorem put_tm (s s' : St) (h : s.tm = s'.tm) (d : Option Nat) (v : AV) : (s.put d v).tm = (s'.put d v).tm := by cases d <;> simp [St.put, h]
/-- One operation of a region. -/
theorem step_sound (hX : Sound P X) (hc : chkO P N ops o ao = true) (hr : stepO X ao s = some s') (W : WRel F ε s.hp w) (ht : TRel F ε s.tm a.tmps) (hN : N ≤ a.tmps.size) {next : Act → World → Prop} {Q : Exit → Act → World → Prop}
    (hn : ∀ a' w' F' ε', Post F ε s.hp w F' ε' s'.hp w' → TRel F' ε' s'.tm a'.tmps → N ≤ a'.tmps.size → a'.defers = a.defers → next a' w') :
    (if Region.wanted o (yielded ops a.tmps) then o.wp P a w next Q ∨ (o.asks P a w ∧ LetsOut Q) else next (a.put o.dst undef) w) := by
  unfold stepO at hr
  split at hr
  · rename_i hw
    rw [wanted_rel hc hw ht hN, if_pos rfl]
    split at hr
    · rename_i v' s1 hop
      cases hr
      have hop2 := opE_tm hop
      have hcop : chkOp P o.op ao.op = true := by simp only [chkO, Bool.and_eq_true] at hc; exact hc.2
      refine .inl (op_sound hX hcop hop W ht next Q ?_)
      rintro u w' ⟨F', ε', p, q⟩
      refine hn _ w' F' ε' (by rw [put_hp]; exact p) ?_ (by rw [put_size]; exact hN) (put_defers _ _ _)
      have := put_rel (s := s) hc (ht.mono p.le (p.envle W)) hN q
      rwa [put_tm s1 s hop2]
    · cases hr
  · rename_i hw
    cases hr
    rw [wanted_rel hc hw ht hN, if_neg (by simp)]
    refine hn _ w F ε (by rw [put_hp]; exact .refl W) (put_rel hc ht hN (mk_tup (LRel.nil _ _))) (by rw [put_size]; exact hN) (put_defers _ _ _)
  · cases hr
theorem list_sound (hX : Sound P X) {Q : Exit → Act → World → Prop} : ∀ {l : List Oper} {als : List AO} {s s' : St} {a : Act} {w : World} {F : Frz} {ε : Env}, chkL P N ops l als = true → runOps X als s = some s' → WRel F ε s.hp w → TRel F ε s.tm a.tmps → N ≤ a.tmps.size →
    (∀ a' w' F' ε', Post F ε s.hp w F' ε' s'.hp w' → TRel F' ε' s'.tm a'.tmps → N ≤ a'.tmps.size → a'.defers = a.defers → Q .normal a' w') → wpList P ops Q l a w
  | [], [], s, s', a, w, F, ε, _, hr, W, ht, hN, hQ => by
    simp only [runOps, Option.some.injEq] at hr; subst hr
    exact hQ a w F ε (.refl W) ht hN rfl
  | o :: l, ao :: als, s, s', a, w, F, ε, hc, hr, W, ht, hN, hQ => by
    simp only [chkL, Bool.and_eq_true] at hc
    simp only [runOps] at hr
    split at hr
    · rename_i s1 h1
      simp only [wpList]
      refine step_sound hX hc.1 h1 W ht hN fun a' w' F' ε' p q hN' hd => ?_
      exact list_sound hX hc.2 hr p.W q hN' fun a2 w2 F2 ε2 p2 q2 hN2 hd2 => hQ a2 w2 F2 ε2 (p.trans p2) q2 hN2 (hd2.trans hd)
    · cases hr
  | [], _ :: _, _, _, _, _, _, _, hc, _, _, _, _, _ => by simp [chkL] at hc
  | _ :: _, [], _, _, _, _, _, _, hc, _, _, _, _, _ => by simp [chkL] at hc
theorem runLog_runOps {X : CallSem} : ∀ {l : List AO} {s s' : St} {fs}, runLog X l s = some (s', fs) → runOps X l s = some s'
  | [], s, s', fs, h => by simp only [runLog, Option.some.injEq, Prod.mk.injEq] at h; simp [runOps, h.1]
  | o :: l, s, s', fs, h => by
    simp only [runLog] at h
    split at h
    · rename_i s1 h1
      split at h
      · rename_i s2 fs2 h2
        simp only [Option.some.injEq, Prod.mk.injEq] at h
        obtain ⟨rfl, _⟩ := h
        simp only [runOps, h1]
        exact runLog_runOps h2
      · cases h
    · cases h
theorem runR_runOps {X : CallSem} {l : List AO} {ps} (h : runR X l ps s = some s') : runOps X l s = some s' := by
  cases ps with
  | none => exact h
  | some ps =>
    simp only [runR] at h
    split at h
    · rename_i s2 fs h2
      split at h
      · cases h; exact runLog_runOps h2
      · cases h
    · cases h
end
end Go.Ab
