/- The abstract machine's limits: equations without fuel. -/
import Derived.Test.YtgjconibaflaaaaGreatDoorAbMach
namespace Go.Ab
set_option linter.unusedVariables false
set_option linter.unusedSimpArgs false
open Go

def CallSem.le (X Y : CallSem) : Prop := ∀ f a h r, X f a h = some r → Y f a h = some r

theorem callA_mono {X Y : CallSem} (hXY : X.le Y) {f args h r} (hr : callA X f args h = some r) : callA Y f args h = some r := by
  unfold callA at hr ⊢
  dsimp only at hr ⊢
  split at hr
  · cases hr
  · rename_i v h' he
    rw [hXY _ _ _ _ he]
    exact hr

theorem opE_mono {X Y : CallSem} (hXY : X.le Y) {o s r} (hr : opE X o s = some r) : opE Y o s = some r := by
  cases o
  case call f args =>
    simp only [opE] at hr ⊢
    split at hr
    · rename_i v h he
      rw [callA_mono hXY he]
      exact hr
    · cases hr
  case callv x args =>
    simp only [opE] at hr ⊢
    split at hr
    · split at hr
      · rename_i v h he
        rw [callA_mono hXY he]
        exact hr
      · cases hr
    · cases hr
  all_goals exact hr

theorem stepO_mono {X Y : CallSem} (hXY : X.le Y) {o s r} (hr : stepO X o s = some r) : stepO Y o s = some r := by
  unfold stepO at hr ⊢
  split at hr
  · split at hr
    · rename_i v s' he
      rw [opE_mono hXY he]
      exact hr
    · cases hr
  · exact hr
  · cases hr

theorem runOps_mono {X Y : CallSem} (hXY : X.le Y) : ∀ {l s r}, runOps X l s = some r → runOps Y l s = some r
  | [], _, _, hr => hr
  | o :: l, s, r, hr => by
    simp only [runOps] at hr ⊢
    split at hr
    · rename_i s' he
      rw [stepO_mono hXY he]
      exact runOps_mono hXY hr
    · cases hr

theorem runLog_mono {X Y : CallSem} (hXY : X.le Y) : ∀ {l s r}, runLog X l s = some r → runLog Y l s = some r
  | [], _, _, hr => hr
  | o :: l, s, r, hr => by
    simp only [runLog] at hr ⊢
    split at hr
    · rename_i s' he
      rw [stepO_mono hXY he]
      split at hr
      · rename_i s'' fs he2
        simp only [runLog_mono hXY he2]
        exact hr
      · cases hr
    · cases hr

theorem runR_mono {X Y : CallSem} (hXY : X.le Y) {l p s r} (hr : runR X l p s = some r) : runR Y l p s = some r := by
  unfold runR at hr ⊢
  split at hr
  · exact runOps_mono hXY hr
  · split at hr
    · rename_i s' fs he
      simp only [runLog_mono hXY he]
      exact hr
    · cases hr

theorem exec_mono {X Y : CallSem} (hXY : X.le Y) {m : Nat} : ∀ {n n' c s r}, n ≤ n' → exec X m n c s = some r → exec Y m n' c s = some r
  | 0, _, _, _, _, _, hr => by simp [exec] at hr
  | n + 1, 0, _, _, _, h, _ => by omega
  | n + 1, n' + 1, c, s, r, h, hr => by
    have hn : n ≤ n' := by omega
    cases c with
    | skip => simpa [exec] using hr
    | exit id => simpa [exec] using hr
    | ret => simpa [exec] using hr
    | region ops pairs keep =>
      simp only [exec] at hr ⊢
      split at hr
      · rename_i s' he
        rw [runR_mono hXY he]
        exact hr
      · cases hr
    | seq a b =>
      simp only [exec] at hr ⊢
      split at hr
      · rename_i s' he
        rw [exec_mono hXY hn he]
        exact exec_mono hXY hn hr
      · rename_i q hq
        cases hqa : exec X m n a s with
        | none => rw [hqa] at hr; cases hr
        | some p =>
          rw [hqa] at hr
          have hp := exec_mono hXY hn hqa
          rw [hp]
          obtain ⟨e, s'⟩ := p
          cases e with
          | normal => exact absurd hqa (hq s')
          | exit id => exact hr
          | ret => exact hr
          | goto l => exact hr
    | cond x a b =>
      simp only [exec] at hr ⊢
      split at hr
      · exact exec_mono hXY hn hr
      · cases hr
    | block id a =>
      simp only [exec] at hr ⊢
      cases hqa : exec X m n a s with
      | none => rw [hqa] at hr; cases hr
      | some p =>
        rw [hqa] at hr
        rw [exec_mono hXY hn hqa]
        exact hr
    | loop keep mat a =>
      simp only [exec] at hr ⊢
      cases hqa : exec X m n a (norm m ((mats mat s).keep keep)) with
      | none => rw [hqa] at hr; cases hr
      | some p =>
        rw [hqa] at hr
        rw [exec_mono hXY hn hqa]
        obtain ⟨e, s'⟩ := p
        cases e with
        | normal => exact exec_mono hXY hn hr
        | exit id => exact hr
        | ret => exact hr
        | goto l => exact hr
    | goto l => simpa [exec] using hr
    | scope rests a =>
      simp only [exec] at hr ⊢
      cases hqa : exec X m n a s with
      | none => rw [hqa] at hr; cases hr
      | some p =>
        rw [hqa] at hr
        rw [exec_mono hXY hn hqa]
        obtain ⟨e, s'⟩ := p
        cases e with
        | normal => exact hr
        | exit id => exact hr
        | ret => exact hr
        | goto l =>
          dsimp only at hr ⊢
          split at hr
          · exact exec_mono hXY hn hr
          · exact hr

variable {T : FuncId → Option Entry}
theorem callN_le : ∀ (n n' : Nat), n ≤ n' → (callN T n).le (callN T n')
  | 0, _, _ => fun f a h r hr => by simp [callN] at hr
  | n + 1, 0, h => by omega
  | n + 1, n' + 1, h => fun f a hp r hr => by
    simp only [callN] at hr ⊢
    split at hr
    · cases hr
    · exact hr
    · split at hr
      · rename_i q he
        rw [exec_mono (callN_le n n' (by omega)) (by omega) he]
        exact hr
      · cases hr

open Classical in
/-- The one answer that is come to, if there is any. -/
noncomputable def lim_ {α : Type} (F : Nat → Option α) : Option α := if h : ∃ r n, F n = some r then some h.choose else none


theorem lim_eq {α : Type} {F : Nat → Option α} (hF : ∀ n n' (r : α), n ≤ n' → F n = some r → F n' = some r) {n : Nat} {r : α} (h : F n = some r) : lim_ F = some r := by
  have hex : ∃ r n, F n = some r := ⟨r, n, h⟩
  unfold lim_
  rw [dif_pos hex]
  obtain ⟨n', hn'⟩ := hex.choose_spec
  have a := hF n (max n n') r (by omega) h
  have b := hF n' (max n n') _ (by omega) hn'
  rw [a] at b
  exact b.symm
theorem lim_some {α : Type} {F : Nat → Option α} {r : α} (h : lim_ F = some r) : ∃ n, F n = some r := by
  unfold lim_ at h
  split at h
  · rename_i hex
    obtain ⟨n, hn⟩ := hex.choose_spec
    cases h
    exact ⟨n, hn⟩
  · cases h

/-- What a call comes to. -/
noncomputable def XC (T : FuncId → Option Entry) : CallSem := fun f args h => lim_ fun n => callN T n f args h
/-- What code comes to. -/
noncomputable def Xe (T : FuncId → Option Entry) (m : Nat) (c : AC) (s : St) : Option (Ex × St) := lim_ fun n => exec (callN T n) m n c s

theorem XC_of {n f args h r} (hr : callN T n f args h = some r) : XC T f args h = some r := lim_eq (fun a b r hab hr => callN_le a b hab _ _ _ _ hr) hr
theorem XC_some {f args h r} (hr : XC T f args h = some r) : ∃ n, callN T n f args h = some r := lim_some hr
theorem exec_up {m c s n n' r} (hn : n ≤ n') (hr : exec (callN T n) m n c s = some r) : exec (callN T n') m n' c s = some r := exec_mono (callN_le n n' hn) hn hr
theorem Xe_of {n m c s r} (hr : exec (callN T n) m n c s = some r) : Xe T m c s = some r := lim_eq (fun _ _ _ hab hr => exec_up hab hr) hr
theorem Xe_some {m c s r} (hr : Xe T m c s = some r) : ∃ n, exec (callN T n) m n c s = some r := lim_some hr
theorem le_XC (n : Nat) : (callN T n).le (XC T) := fun _ _ _ _ hr => XC_of hr

theorem callA_cont {f args h r} (hr : callA (XC T) f args h = some r) : ∃ n, callA (callN T n) f args h = some r := by
  unfold callA at hr ⊢
  dsimp only at hr ⊢
  split at hr
  · cases hr
  · rename_i v h' he
    obtain ⟨n, hn⟩ := XC_some he
    exact ⟨n, by rw [hn]; exact hr⟩
theorem opE_cont {o s r} (hr : opE (XC T) o s = some r) : ∃ n, opE (callN T n) o s = some r := by
  cases o
  case call f args =>
    simp only [opE] at hr ⊢
    split at hr
    · rename_i v h he
      obtain ⟨n, hn⟩ := callA_cont he
      exact ⟨n, by rw [hn]; exact hr⟩
    · cases hr
  case callv x args =>
    simp only [opE] at hr ⊢
    split at hr
    · split at hr
      · rename_i v h he
        obtain ⟨n, hn⟩ := callA_cont he
        exact ⟨n, by rw [hn]; exact hr⟩
      · cases hr
    · cases hr
  all_goals exact ⟨0, hr⟩
theorem stepO_cont {o s r} (hr : stepO (XC T) o s = some r) : ∃ n, stepO (callN T n) o s = some r := by
  unfold stepO at hr ⊢
  split at hr
  · split at hr
    · rename_i v s' he
      obtain ⟨n, hn⟩ := opE_cont he
      exact ⟨n, by rw [hn]; exact hr⟩
    · cases hr
  · exact ⟨0, hr⟩
  · cases hr
theorem runOps_cont : ∀ {l s r}, runOps (XC T) l s = some r → ∃ n, runOps (callN T n) l s = some r
  | [], _, _, hr => ⟨0, hr⟩
  | o :: l, s, r, hr => by
    simp only [runOps] at hr ⊢
    split at hr
    · rename_i s' he
      obtain ⟨n, hn⟩ := stepO_cont he
      obtain ⟨n', hn'⟩ := runOps_cont hr
      refine ⟨max n n', ?_⟩
      rw [stepO_mono (callN_le n _ (by omega)) hn]
      exact runOps_mono (callN_le n' _ (by omega)) hn'
    · cases hr
theorem runLog_cont : ∀ {l s r}, runLog (XC T) l s = some r → ∃ n, runLog (callN T n) l s = some r
  | [], _, _, hr => ⟨0, hr⟩
  | o :: l, s, r, hr => by
    simp only [runLog] at hr ⊢
    split at hr
    · rename_i s' he
      split at hr
      · rename_i s'' fs he2
        obtain ⟨n, hn⟩ := stepO_cont he
        obtain ⟨n', hn'⟩ := runLog_cont he2
        refine ⟨max n n', ?_⟩
        rw [stepO_mono (callN_le n _ (by omega)) hn]
        simp only [runLog_mono (callN_le n' (max n n') (by omega)) hn']
        exact hr
      · cases hr
    · cases hr
theorem runR_cont {l p s r} (hr : runR (XC T) l p s = some r) : ∃ n, runR (callN T n) l p s = some r := by
  unfold runR at hr ⊢
  split at hr
  · exact runOps_cont hr
  · split at hr
    · rename_i s' fs he
      obtain ⟨n, hn⟩ := runLog_cont he
      exact ⟨n, by simp only [hn]; exact hr⟩
    · cases hr

section eqs
variable {m : Nat}
theorem opt_ext {α : Type} {a b : Option α} (h1 : ∀ r, a = some r → b = some r) (h2 : ∀ r, b = some r → a = some r) : a = b := by
  cases a with
  | some r => exact (h1 r rfl).symm
  | none =>
    cases b with
    | none => rfl
    | some r => exact absurd (h2 r rfl) (by simp)
theorem Xe_skip (s : St) : Xe T m .skip s = some (.normal, s) := Xe_of (n := 1) rfl
theorem Xe_exit (id : Nat) (s : St) : Xe T m (.exit id) s = some (.exit id, s) := Xe_of (n := 1) rfl
theorem Xe_ret (s : St) : Xe T m .ret s = some (.ret, s) := Xe_of (n := 1) rfl
theorem Xe_region (ops pairs keep) (s : St) : Xe T m (.region ops pairs keep) s = match runR (XC T) ops pairs s with | some s' => some (.normal, s'.keep keep) | none => none := by
  apply opt_ext
  · intro r hr
    obtain ⟨n, hn⟩ := Xe_some hr
    cases n with
    | zero => simp [exec] at hn
    | succ n =>
      simp only [exec] at hn
      split at hn
      · rename_i s' he
        rw [runR_mono (le_XC _) he]
        exact hn
      · cases hn
  · intro r hr
    split at hr
    · rename_i s' he
      obtain ⟨n, hn⟩ := runR_cont he
      refine Xe_of (n := n + 1) ?_
      simp only [exec]
      rw [runR_mono (callN_le n (n + 1) (by omega)) hn]
      exact hr
    · cases hr
theorem Xe_seq (a b : AC) (s : St) : Xe T m (.seq a b) s = match Xe T m a s with | some (.normal, s') => Xe T m b s' | r => r := by
  apply opt_ext
  · intro r hr
    obtain ⟨n, hn⟩ := Xe_some hr
    cases n with
    | zero => simp [exec] at hn
    | succ n =>
      simp only [exec] at hn
      cases hqa : exec (callN T (n + 1)) m n a s with
      | none => rw [hqa] at hn; cases hn
      | some p =>
        rw [hqa] at hn
        have := Xe_of (exec_mono (fun _ _ _ _ h => h) (Nat.le_succ n) hqa)
        rw [this]
        obtain ⟨e, s'⟩ := p
        cases e with
        | normal => exact Xe_of (exec_mono (fun _ _ _ _ h => h) (Nat.le_succ n) hn)
        | exit id => exact hn
        | ret => exact hn
        | goto l => exact hn
  · intro r hr
    cases hqa : Xe T m a s with
    | none => rw [hqa] at hr; cases hr
    | some p =>
      rw [hqa] at hr
      obtain ⟨n, hn⟩ := Xe_some hqa
      obtain ⟨e, s'⟩ := p
      cases e with
      | normal =>
        obtain ⟨n', hn'⟩ := Xe_some hr
        refine Xe_of (n := max n n' + 1) ?_
        simp only [exec]
        rw [exec_mono (n' := max n n') (callN_le n _ (by omega)) (by omega) hn]
        exact exec_mono (callN_le n' _ (by omega)) (by omega) hn'
      | exit id =>
        refine Xe_of (n := n + 1) ?_
        simp only [exec]
        rw [exec_mono (callN_le n _ (by omega)) (Nat.le_refl _) hn]
        exact hr
      | ret =>
        refine Xe_of (n := n + 1) ?_
        simp only [exec]
        rw [exec_mono (callN_le n _ (by omega)) (Nat.le_refl _) hn]
        exact hr
      | goto l =>
        refine Xe_of (n := n + 1) ?_
        simp only [exec]
        rw [exec_mono (callN_le n _ (by omega)) (Nat.le_refl _) hn]
        exact hr
theorem Xe_cond (x : AX) (a b : AC) (s : St) : Xe T m (.cond x a b) s = match s.ev x with | .f (.bool t) => Xe T m (if t then a else b) s | _ => none := by
  apply opt_ext
  · intro r hr
    obtain ⟨n, hn⟩ := Xe_some hr
    cases n with
    | zero => simp [exec] at hn
    | succ n =>
      simp only [exec] at hn
      split at hn
      · rename_i t he
        rw [he]
        exact Xe_of (exec_mono (fun _ _ _ _ h => h) (Nat.le_succ n) hn)
      · cases hn
  · intro r hr
    split at hr
    · rename_i t he
      obtain ⟨n, hn⟩ := Xe_some hr
      refine Xe_of (n := n + 1) ?_
      simp only [exec, he]
      exact exec_mono (callN_le n _ (by omega)) (Nat.le_refl _) hn
    · cases hr
theorem Xe_block (id : Nat) (a : AC) (s : St) : Xe T m (.block id a) s = match Xe T m a s with
    | some (.exit j, s') => if j = id then some (.normal, s') else some (.exit j, s')
    | r => r := by
  apply opt_ext
  · intro r hr
    obtain ⟨n, hn⟩ := Xe_some hr
    cases n with
    | zero => simp [exec] at hn
    | succ n =>
      simp only [exec] at hn
      cases hqa : exec (callN T (n + 1)) m n a s with
      | none => rw [hqa] at hn; cases hn
      | some p =>
        rw [hqa] at hn
        rw [Xe_of (exec_mono (fun _ _ _ _ h => h) (Nat.le_succ n) hqa)]
        exact hn
  · intro r hr
    cases hqa : Xe T m a s with
    | none => rw [hqa] at hr; cases hr
    | some p =>
      rw [hqa] at hr
      obtain ⟨n, hn⟩ := Xe_some hqa
      refine Xe_of (n := n + 1) ?_
      simp only [exec]
      rw [exec_mono (callN_le n _ (by omega)) (Nat.le_refl _) hn]
      exact hr
theorem Xe_loop (keep mat : List Nat) (a : AC) (s : St) : Xe T m (.loop keep mat a) s = match Xe T m a (norm m ((mats mat s).keep keep)) with
    | some (.normal, s') => Xe T m (.loop keep mat a) s'
    | r => r := by
  apply opt_ext
  · intro r hr
    obtain ⟨n, hn⟩ := Xe_some hr
    cases n with
    | zero => simp [exec] at hn
    | succ n =>
      simp only [exec] at hn
      cases hqa : exec (callN T (n + 1)) m n a (norm m ((mats mat s).keep keep)) with
      | none => rw [hqa] at hn; cases hn
      | some p =>
        rw [hqa] at hn
        rw [Xe_of (exec_mono (fun _ _ _ _ h => h) (Nat.le_succ n) hqa)]
        obtain ⟨e, s'⟩ := p
        cases e with
        | normal => exact Xe_of (exec_mono (fun _ _ _ _ h => h) (Nat.le_succ n) hn)
        | exit id => exact hn
        | ret => exact hn
        | goto l => exact hn
  · intro r hr
    cases hqa : Xe T m a (norm m ((mats mat s).keep keep)) with
    | none => rw [hqa] at hr; cases hr
    | some p =>
      rw [hqa] at hr
      obtain ⟨n, hn⟩ := Xe_some hqa
      obtain ⟨e, s'⟩ := p
      cases e with
      | normal =>
        obtain ⟨n', hn'⟩ := Xe_some hr
        refine Xe_of (n := max n n' + 1) ?_
        simp only [exec]
        rw [exec_mono (n' := max n n') (callN_le n _ (by omega)) (by omega) hn]
        exact exec_mono (callN_le n' _ (by omega)) (by omega) hn'
      | exit id =>
        refine Xe_of (n := n + 1) ?_
        simp only [exec]
        rw [exec_mono (callN_le n _ (by omega)) (Nat.le_refl _) hn]
        exact hr
      | ret =>
        refine Xe_of (n := n + 1) ?_
        simp only [exec]
        rw [exec_mono (callN_le n _ (by omega)) (Nat.le_refl _) hn]
        exact hr
      | goto l =>
        refine Xe_of (n := n + 1) ?_
        simp only [exec]
        rw [exec_mono (callN_le n _ (by omega)) (Nat.le_refl _) hn]
        exact hr
theorem Xe_goto (l : Nat) (s : St) : Xe T m (.goto l) s = some (.goto l, s) := Xe_of (n := 1) rfl
theorem Xe_scope (rests : List (Nat × AC)) (a : AC) (s : St) : Xe T m (.scope rests a) s = match Xe T m a s with
    | some (.goto l, s') => match restOf l rests with
      | some c' => Xe T m (.scope rests c') s'
      | none => none
    | r => r := by
  apply opt_ext
  · intro r hr
    obtain ⟨n, hn⟩ := Xe_some hr
    cases n with
    | zero => simp [exec] at hn
    | succ n =>
      simp only [exec] at hn
      cases hqa : exec (callN T (n + 1)) m n a s with
      | none => rw [hqa] at hn; cases hn
      | some p =>
        rw [hqa] at hn
        rw [Xe_of (exec_mono (fun _ _ _ _ h => h) (Nat.le_succ n) hqa)]
        obtain ⟨e, s'⟩ := p
        cases e with
        | normal => exact hn
        | exit id => exact hn
        | ret => exact hn
        | goto l =>
          dsimp only at hn ⊢
          split at hn
          · rename_i c' hc
            simp only [hc]
            exact Xe_of (exec_mono (fun _ _ _ _ h => h) (Nat.le_succ n) hn)
          · rename_i hc
            simp only [hc]
            exact hn
  · intro r hr
    cases hqa : Xe T m a s with
    | none => rw [hqa] at hr; cases hr
    | some p =>
      rw [hqa] at hr
      obtain ⟨n, hn⟩ := Xe_some hqa
      obtain ⟨e, s'⟩ := p
      by_cases hg : ∃ l c', e = .goto l ∧ restOf l rests = some c'
      · obtain ⟨l, c', rfl, hc⟩ := hg
        simp only [hc] at hr
        obtain ⟨n', hn'⟩ := Xe_some hr
        refine Xe_of (n := max n n' + 1) ?_
        simp only [exec]
        rw [exec_mono (n' := max n n') (callN_le n _ (by omega)) (by omega) hn]
        simp only [hc]
        exact exec_mono (callN_le n' _ (by omega)) (by omega) hn'
      · refine Xe_of (n := n + 1) ?_
        simp only [exec]
        rw [exec_mono (callN_le n _ (by omega)) (Nat.le_refl _) hn]
        cases e with
        | normal => exact hr
        | exit id => exact hr
        | ret => exact hr
        | goto l =>
          dsimp only at hr ⊢
          split
          · rename_i c' hc
            exact absurd ⟨l, c', rfl, hc⟩ hg
          · rename_i hc
            simpa only [hc] using hr
theorem XC_code {f : FuncId} {a : AFun} (hf : T f = some (.code a)) (args : List AV) (h : Heap) :
    XC T f args h = match Xe T h.length a.body (enter args h) with | some r => finish a h.length r | none => none := by
  apply opt_ext
  · intro r hr
    obtain ⟨n, hn⟩ := XC_some hr
    cases n with
    | zero => simp [callN] at hn
    | succ n =>
      simp only [callN, hf] at hn
      split at hn
      · rename_i q he
        rw [Xe_of he]
        exact hn
      · cases hn
  · intro r hr
    split at hr
    · rename_i q he
      obtain ⟨n, hn⟩ := Xe_some he
      refine XC_of (n := n + 1) ?_
      simp only [callN, hf]
      rw [hn]
      exact hr
    · cases hr
theorem XC_prim {f : FuncId} {p} (hf : T f = some (.prim p)) (args : List AV) (h : Heap) : XC T f args h = p args h := by
  apply opt_ext
  · intro r hr
    obtain ⟨n, hn⟩ := XC_some hr
    cases n with
    | zero => simp [callN] at hn
    | succ n => simpa only [callN, hf] using hn
  · intro r hr
    exact XC_of (n := 1) (by simpa only [callN, hf] using hr)
end eqs
end Go.Ab
