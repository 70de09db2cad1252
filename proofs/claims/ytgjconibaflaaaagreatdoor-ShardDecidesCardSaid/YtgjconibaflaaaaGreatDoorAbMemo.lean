/- Calls that are known may stand for a function's code. -/
import Derived.Test.YtgjconibaflaaaaGreatDoorAbLim
namespace Go.Ab
open Go
set_option linter.unusedVariables false
set_option linter.unusedSimpArgs false

/-! ### What code does with calls that are known -/
theorem Xe_of_exec {T : FuncId → Option Entry} {m : Nat} : ∀ {n : Nat} {c : AC} {s : St} {r}, exec (XC T) m n c s = some r → Xe T m c s = some r
  | 0, c, s, r, h => by simp [exec] at h
  | n + 1, c, s, r, h => by
    cases c with
    | skip => rw [Xe_skip]; simpa [exec] using h
    | exit id => rw [Xe_exit]; simpa [exec] using h
    | ret => rw [Xe_ret]; simpa [exec] using h
    | goto l => rw [Xe_goto]; simpa [exec] using h
    | region ops pairs keep => rw [Xe_region]; simp only [exec] at h; split at h <;> (rename_i hq; rw [hq]; exact h)
    | seq a b =>
      rw [Xe_seq]
      simp only [exec] at h
      cases hq : exec (XC T) m n a s with
      | none => rw [hq] at h; cases h
      | some p =>
        rw [hq] at h
        rw [Xe_of_exec hq]
        obtain ⟨e, s'⟩ := p
        cases e with
        | normal => exact Xe_of_exec h
        | exit id => exact h
        | ret => exact h
        | goto l => exact h
    | cond x a b =>
      rw [Xe_cond]
      simp only [exec] at h
      split at h
      · rename_i t he
        rw [he]; exact Xe_of_exec h
      · cases h
    | block id a =>
      rw [Xe_block]
      simp only [exec] at h
      cases hq : exec (XC T) m n a s with
      | none => rw [hq] at h; cases h
      | some p => rw [hq] at h; rw [Xe_of_exec hq]; exact h
    | loop keep mat a =>
      rw [Xe_loop]
      simp only [exec] at h
      cases hq : exec (XC T) m n a (norm m ((mats mat s).keep keep)) with
      | none => rw [hq] at h; cases h
      | some p =>
        rw [hq] at h
        rw [Xe_of_exec hq]
        obtain ⟨e, s'⟩ := p
        cases e with
        | normal => exact Xe_of_exec h
        | exit id => exact h
        | ret => exact h
        | goto l => exact h
    | scope rests a =>
      rw [Xe_scope]
      simp only [exec] at h
      cases hq : exec (XC T) m n a s with
      | none => rw [hq] at h; cases h
      | some p =>
        rw [hq] at h
        rw [Xe_of_exec hq]
        obtain ⟨e, s'⟩ := p
        cases e with
        | normal => exact h
        | exit id => exact h
        | ret => exact h
        | goto l =>
          dsimp only at h ⊢
          split at h
          · rename_i c' hc
            simp only [hc]
            exact Xe_of_exec h
          · cases h
/-- A table in which some functions are given by what is known of them. -/
def Refines (T T' : FuncId → Option Entry) : Prop := ∀ f, T' f = T f ∨ ∃ p, T' f = some (.prim p) ∧ ∀ args h r, p args h = some r → XC T f args h = some r
theorem callN_refines {T T' : FuncId → Option Entry} (hT : Refines T T') : ∀ n, (callN T' n).le (XC T)
  | 0 => fun f args h r hr => by cases hr
  | n + 1 => fun f args h r hr => by
    simp only [callN] at hr
    rcases hT f with he | ⟨p, he, hp⟩
    · rw [he] at hr
      cases ht : T f with
      | none => rw [ht] at hr; cases hr
      | some e =>
        rw [ht] at hr
        cases e with
        | prim p => rw [XC_prim ht]; exact hr
        | code a =>
          rw [XC_code ht]
          simp only at hr
          split at hr
          · rename_i q hq
            rw [Xe_of_exec (exec_mono (callN_refines hT n) (Nat.le_refl _) hq)]
            exact hr
          · cases hr
    · rw [he] at hr
      exact hp _ _ _ hr
theorem XC_refines {T T' : FuncId → Option Entry} (hT : Refines T T') {n : Nat} {f args h r} (hr : callN T' n f args h = some r) : XC T f args h = some r := callN_refines hT n _ _ _ _ hr

/-! ### Values held equal -/
mutual
def FV.eqb : FV → FV → Bool
  | .bool a, .bool b => a == b
  | .int k a, .int l b => decide (k = l) && decide (a = b)
  | .str a, .str b => decide (a = b)
  | .nilp, .nilp => true
  | .nilm, .nilm => true
  | .nilf, .nilf => true
  | .nili, .nili => true
  | .sl k a, .sl l b => decide (k = l) && eqbLL a b
  | _, _ => false
def eqbL : List FV → List FV → Bool
  | [], [] => true
  | a :: l, b :: r => a.eqb b && eqbL l r
  | _, _ => false
def eqbLL : List (List FV) → List (List FV) → Bool
  | [], [] => true
  | a :: l, b :: r => eqbL a b && eqbLL l r
  | _, _ => false
end
mutual
theorem FV.eqb_eq : ∀ {a b : FV}, a.eqb b = true → a = b
  | .bool a, .bool b, h => by simp [FV.eqb] at h; rw [h]
  | .int k a, .int l b, h => by simp [FV.eqb] at h; rw [h.1, h.2]
  | .str a, .str b, h => by simp [FV.eqb] at h; rw [h]
  | .nilp, .nilp, _ => rfl
  | .nilm, .nilm, _ => rfl
  | .nilf, .nilf, _ => rfl
  | .nili, .nili, _ => rfl
  | .sl k a, .sl l b, h => by
    simp only [FV.eqb, Bool.and_eq_true, decide_eq_true_eq] at h
    rw [h.1, eqbLL_eq h.2]
theorem eqbL_eq : ∀ {a b : List FV}, eqbL a b = true → a = b
  | [], [], _ => rfl
  | a :: l, b :: r, h => by
    simp only [eqbL, Bool.and_eq_true] at h
    rw [FV.eqb_eq h.1, eqbL_eq h.2]
theorem eqbLL_eq : ∀ {a b : List (List FV)}, eqbLL a b = true → a = b
  | [], [], _ => rfl
  | a :: l, b :: r, h => by
    simp only [eqbLL, Bool.and_eq_true] at h
    rw [eqbL_eq h.1, eqbLL_eq h.2]
end
mutual
def AV.eqb : AV → AV → Bool
  | .f a, .f b => a.eqb b
  | .sl0 k, .sl0 l => decide (k = l)
  | .vec i, .vec j => decide (i = j)
  | .sub i o n, .sub j p q => decide (i = j) && decide (o = p) && decide (n = q)
  | .ptr i o n, .ptr j p q => decide (i = j) && decide (o = p) && decide (n = q)
  | .fptr k a i j, .fptr l b p q => decide (k = l) && eqbLL a b && decide (i = p) && decide (j = q)
  | .mp i, .mp j => decide (i = j)
  | .fn f a b, .fn g c d => decide (f = g) && aeqbL a c && aeqbL b d
  | .agg a, .agg b => aeqbL a b
  | .tup a, .tup b => aeqbL a b
  | .dead, .dead => true
  | _, _ => false
def aeqbL : List AV → List AV → Bool
  | [], [] => true
  | a :: l, b :: r => a.eqb b && aeqbL l r
  | _, _ => false
end
mutual
theorem AV.eqb_eq : ∀ {a b : AV}, a.eqb b = true → a = b
  | .f a, .f b, h => by simp only [AV.eqb] at h; rw [FV.eqb_eq h]
  | .sl0 k, .sl0 l, h => by simp [AV.eqb] at h; rw [h]
  | .vec k, .vec l, h => by simp [AV.eqb] at h; rw [h]
  | .sub i o n, .sub j p q, h => by simp [AV.eqb] at h; obtain ⟨⟨rfl, rfl⟩, rfl⟩ := h; rfl
  | .ptr i o n, .ptr j p q, h => by simp [AV.eqb] at h; obtain ⟨⟨rfl, rfl⟩, rfl⟩ := h; rfl
  | .fptr k a i j, .fptr l b p q, h => by
    simp only [AV.eqb, Bool.and_eq_true, decide_eq_true_eq] at h
    obtain ⟨⟨⟨rfl, h⟩, rfl⟩, rfl⟩ := h
    rw [eqbLL_eq h]
  | .mp k, .mp l, h => by simp [AV.eqb] at h; rw [h]
  | .fn f a b, .fn g c d, h => by
    simp only [AV.eqb, Bool.and_eq_true, decide_eq_true_eq] at h
    obtain ⟨⟨rfl, h1⟩, h2⟩ := h
    rw [aeqbL_eq h1, aeqbL_eq h2]
  | .agg a, .agg b, h => by simp only [AV.eqb] at h; rw [aeqbL_eq h]
  | .tup a, .tup b, h => by simp only [AV.eqb] at h; rw [aeqbL_eq h]
  | .dead, .dead, _ => rfl
theorem aeqbL_eq : ∀ {a b : List AV}, aeqbL a b = true → a = b
  | [], [], _ => rfl
  | a :: l, b :: r, h => by
    simp only [aeqbL, Bool.and_eq_true] at h
    rw [AV.eqb_eq h.1, aeqbL_eq h.2]
end
def aeqbLL : List (List AV) → List (List AV) → Bool
  | [], [] => true
  | a :: l, b :: r => aeqbL a b && aeqbLL l r
  | _, _ => false
theorem aeqbLL_eq : ∀ {a b : List (List AV)}, aeqbLL a b = true → a = b
  | [], [], _ => rfl
  | a :: l, b :: r, h => by
    simp only [aeqbLL, Bool.and_eq_true] at h
    rw [aeqbL_eq h.1, aeqbLL_eq h.2]
def eeqb : List (List FV × AV) → List (List FV × AV) → Bool
  | [], [] => true
  | (k, v) :: l, (q, u) :: r => eqbL k q && v.eqb u && eeqb l r
  | _, _ => false
theorem eeqb_eq : ∀ {a b : List (List FV × AV)}, eeqb a b = true → a = b
  | [], [], _ => rfl
  | (k, v) :: l, (q, u) :: r, h => by
    simp only [eeqb, Bool.and_eq_true] at h
    rw [eqbL_eq h.1.1, AV.eqb_eq h.1.2, eeqb_eq h.2]
def Blk.eqb : Blk → Blk → Bool
  | .frows k a, .frows l b => decide (k = l) && eqbLL a b
  | .rows k a, .rows l b => decide (k = l) && aeqbLL a b
  | .map a, .map b => eeqb a b
  | .iter s p, .iter t q => decide (s = t) && decide (p = q)
  | _, _ => false
theorem Blk.eqb_eq : ∀ {a b : Blk}, a.eqb b = true → a = b
  | .frows k a, .frows l b, h => by
    simp only [Blk.eqb, Bool.and_eq_true, decide_eq_true_eq] at h
    rw [h.1, eqbLL_eq h.2]
  | .rows k a, .rows l b, h => by
    simp only [Blk.eqb, Bool.and_eq_true, decide_eq_true_eq] at h
    rw [h.1, aeqbLL_eq h.2]
  | .map a, .map b, h => by simp only [Blk.eqb] at h; rw [eeqb_eq h]
  | .iter s p, .iter t q, h => by simp [Blk.eqb] at h; rw [h.1, h.2]
def heqb : Heap → Heap → Bool
  | [], [] => true
  | none :: l, none :: r => heqb l r
  | some a :: l, some b :: r => a.eqb b && heqb l r
  | _, _ => false
theorem heqb_eq : ∀ {a b : Heap}, heqb a b = true → a = b
  | [], [], _ => rfl
  | none :: l, none :: r, h => by simp only [heqb] at h; rw [heqb_eq h]
  | some a :: l, some b :: r, h => by
    simp only [heqb, Bool.and_eq_true] at h
    rw [Blk.eqb_eq h.1, heqb_eq h.2]
/-- What is known: a list of calls. -/
abbrev Known := List ((List AV × Heap) × (AV × Heap))
def memo : Known → List AV → Heap → Option (AV × Heap)
  | [], _, _ => none
  | ((as, g), r) :: l, args, h => if aeqbL as args && heqb g h then some r else memo l args h
def KnownOk (T : FuncId → Option Entry) (f : FuncId) (l : Known) : Prop := ∀ e ∈ l, XC T f e.1.1 e.1.2 = some e.2
theorem memo_ok {T : FuncId → Option Entry} {f : FuncId} : ∀ {l : Known}, KnownOk T f l → ∀ args h r, memo l args h = some r → XC T f args h = some r
  | [], _, args, h, r, hr => by cases hr
  | ((as, g), q) :: l, hl, args, h, r, hr => by
    simp only [memo] at hr
    split at hr
    · rename_i he
      simp only [Bool.and_eq_true] at he
      rw [← aeqbL_eq he.1, ← heqb_eq he.2, ← hr]
      exact hl ((as, g), q) (by simp)
    · exact memo_ok (fun e he => hl e (by simp [he])) args h r hr
/-- The table with what is known. -/
def withK (T : FuncId → Option Entry) (ks : List (FuncId × Known)) : FuncId → Option Entry := fun f =>
  match ks.lookup f with
  | some l => some (.prim (memo l))
  | none => T f
theorem withK_ok {T : FuncId → Option Entry} {ks : List (FuncId × Known)} (h : ∀ f l, ks.lookup f = some l → KnownOk T f l) : Refines T (withK T ks) := by
  intro f
  unfold withK
  cases hk : ks.lookup f with
  | none => exact .inl rfl
  | some l => exact .inr ⟨_, rfl, memo_ok (h f l hk)⟩
theorem known1 {T : FuncId → Option Entry} {f : FuncId} {l : Known} (h : KnownOk T f l) : ∀ g l', [(f, l)].lookup g = some l' → KnownOk T g l' := by
  intro g l' hg
  simp only [List.lookup] at hg
  split at hg
  · rename_i he
    cases hg
    have : g = f := by simpa using he
    rw [this]; exact h
  · cases hg
end Go.Ab
