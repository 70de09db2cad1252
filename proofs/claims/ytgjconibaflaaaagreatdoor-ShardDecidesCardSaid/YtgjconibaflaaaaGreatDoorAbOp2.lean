/- One operation: those that only reckon. -/
import Derived.Test.YtgjconibaflaaaaGreatDoorAbOp1
import Derived.Laws.Strings
namespace Go.Ab
open Go
set_option linter.unusedVariables false
set_option linter.unusedSimpArgs false
section
variable {P : Program} {F : Frz} {ε : Env} {w : World} {s s' : St} {a : Act} {o : Oper} {v : AV}

theorem rel_bool {u : Value} {b : Bool} (h : VRel F ε (.f (.bool b)) u) : u = .bool b := by cases h with | f h => cases h; rfl
theorem rel_int {u : Value} {k : IntKind} {n : Int} (h : VRel F ε (.f (.int k n)) u) : u = .int k n := by cases h with | f h => cases h; rfl
theorem rel_str {u : Value} {t : ByteArray} (h : VRel F ε (.f (.str t)) u) : u = .string t := by cases h with | f h => cases h; rfl
theorem rel_float {u : Value} {k : FloatKind} {n : Nat} (h : VRel F ε (.f (.float k n)) u) : u = .float k n := by cases h with | f h => cases h; rfl
theorem rel_complex {u : Value} {k : FloatKind} {n m : Nat} (h : VRel F ε (.f (.complex k n m)) u) : u = .complex k n m := by cases h with | f h => cases h; rfl
theorem rel_agg {u : Value} {as : List AV} (h : VRel F ε (.agg as) u) : ∃ us, u = .agg us ∧ LRel F ε as us.toList := by
  cases h with | agg ha hh => exact ⟨_, rfl, by simpa using ha, fun i x y hx hy => hh i x y hx (by simpa using hy)⟩
theorem rel_tup {u : Value} {as : List AV} (h : VRel F ε (.tup as) u) : ∃ us, u = .tuple us ∧ LRel F ε as us.toList := by
  cases h with | tup ha hh => exact ⟨_, rfl, by simpa using ha, fun i x y hx hy => hh i x y hx (by simpa using hy)⟩
theorem mk_agg {as : List AV} {us : List Value} (h : LRel F ε as us) : VRel F ε (.agg as) (.agg us.toArray) :=
  .agg (by simpa using h.1) (fun i x y hx hy => h.2 i x y hx (by simpa using hy))
theorem mk_tup {as : List AV} {us : List Value} (h : LRel F ε as us) : VRel F ε (.tup as) (.tuple us.toArray) :=
  .tup (by simpa using h.1) (fun i x y hx hy => h.2 i x y hx (by simpa using hy))

theorem op_nilchk {x : Operand} {y : AX} (ho : o.op = .nilCheck x) (hx : chkX x y = true) (hv : (∃ i j k, s.ev y = .ptr i j k) ∨ (∃ i j k l, s.ev y = .fptr i j k l))
    (W : WRel F ε s.hp w) (ht : TRel F ε s.tm a.tmps) : OpOk P o a F ε s.hp w (s.ev y) s.hp := by
  have h := ev_rel hx ht
  have hp : ∃ ad, a.eval x = .pointer (some ad) := by
    rcases hv with ⟨i, j, k, hv⟩ | ⟨i, j, k, l, hv⟩ <;> rw [hv] at h <;> (generalize a.eval x = q at h ⊢; cases h <;> exact ⟨_, rfl⟩)
  obtain ⟨ad, hp⟩ := hp
  refine gives_value (u := a.eval x) (w' := w) ?_ ⟨F, ε, .refl W, h⟩
  simp [execOp, ho, hp]
theorem op_not {x : Operand} {y : AX} {t : TypeId} {b : Bool} (ho : o.op = .unOp .not t x) (hx : chkX x y = true) (hv : s.ev y = .f (.bool b))
    (W : WRel F ε s.hp w) (ht : TRel F ε s.tm a.tmps) : OpOk P o a F ε s.hp w (.f (.bool (!b))) s.hp := by
  have h := ev_rel hx ht; rw [hv] at h
  refine gives_value (u := .bool (!b)) (w' := w) ?_ ⟨F, ε, .refl W, .f (.bool _)⟩
  simp only [execOp, ho, rel_bool h]
  exact run_v rfl
theorem op_neg {x : Operand} {y : AX} {t : TypeId} {k : IntKind} {n : Int} (ho : o.op = .unOp .neg t x) (hx : chkX x y = true) (hv : s.ev y = .f (.int k n))
    (W : WRel F ε s.hp w) (ht : TRel F ε s.tm a.tmps) : OpOk P o a F ε s.hp w (.f (.int k (k.wrap (0 - n)))) s.hp := by
  have h := ev_rel hx ht; rw [hv] at h
  refine gives_value (u := .int k (k.wrap (0 - n))) (w' := w) ?_ ⟨F, ε, .refl W, .f (.int _ _)⟩
  simp only [execOp, ho, rel_int h]
  exact run_v rfl

theorem toList_eq (x y : ByteArray) : (x.toList == y.toList) = decide (x = y) := by
  rw [Bool.eq_iff_iff, ByteArray.toList_eq, ByteArray.toList_eq]
  simp only [beq_iff_eq, decide_eq_true_eq]
  constructor
  · intro h
    cases x; cases y
    congr 1
    exact Array.toList_inj.1 h
  · rintro rfl; rfl
theorem beq_int (x y : Int) : (x == y) = decide (x = y) := rfl
/-- A guard that asks nothing. -/
theorem run_eqGuard {op : BinOp} {t : TypeId} {x y : Operand} {u1 u2 : Value} (h1 : ∀ cs, u1 ≠ .agg cs) (h2 : u1 ≠ .nilIface) : (eqGuard op t x y u1 u2).run P w = .ok () w := by
  unfold eqGuard
  cases op <;> cases u1 <;> first | rfl | (exact absurd rfl h2) | (exact absurd rfl (h1 _))
theorem bin_int {op : BinOp} {k l : IntKind} {m n : Int} {z : FV} (h : binV op (.int k m) (.int l n) = some z) (t : TypeId) :
    ∃ u, (binOp op t (.int k m) (.int l n)).run P w = .ok u w ∧ FRel F z u := by
  simp only [binV] at h
  by_cases hs : op = .shl ∨ op = .shr
  · rcases hs with rfl | rfl <;> simp only at h <;> split at h <;> first | (cases h; done) | skip
    all_goals
      rename_i hb
      cases h
      exact ⟨.int k _, by simp only [binOp, Op.shift, if_neg hb]; rfl, .int _ _⟩
  · have h' : (if k = l then match arith op k m n with | some n => some (FV.int k n) | none => match cmpInt op m n with | some t => some (FV.bool t) | none => none else none) = some z := by
      cases op <;> first | exact h | (exact absurd (.inl rfl) hs) | (exact absurd (.inr rfl) hs)
    clear h
    split at h'
    · rename_i hkl
      subst hkl
      cases op <;> first
        | (exact absurd (.inl rfl) hs)
        | (exact absurd (.inr rfl) hs)
        | (simp only [arith] at h'; cases h'; exact ⟨.int k _, by simp [binOp, Op.intArith, Op.intBits], .int _ _⟩)
        | (simp only [arith, cmpInt] at h'; cases h'; exact ⟨.bool _, by simp [binOp, Op.intCmp, beq_int, bne], .bool _⟩)
        | (simp only [arith, cmpInt] at h'
           by_cases hn : n = 0
           · simp [hn] at h'
           · simp only [if_neg hn] at h'
             cases h'
             exact ⟨.int k _, by simp [binOp, Op.intDiv, hn], .int _ _⟩)
    · cases h'
theorem bin_str {op : BinOp} {m n : ByteArray} {z : FV} (h : binV op (.str m) (.str n) = some z) (t : TypeId) :
    ∃ u, (binOp op t (.string m) (.string n)).run P w = .ok u w ∧ FRel F z u := by
  simp only [binV] at h
  cases op <;> simp only [cmpStr] at h <;> first
    | (cases h; done)
    | (cases h; exact ⟨.bool _, by simp only [binOp, Op.stringOp, toList_eq]; (try simp only [ByteArray.toList_eq]); rfl, .bool _⟩)
    | skip
  split at h
  · rename_i hs
    cases h
    refine ⟨.string (m ++ n), ?_, .str _⟩
    have : ¬ ((m.size + n.size : Nat) : Int) > IntKind.i64.max := by
      have h2 : IntKind.i64.max = 9223372036854775807 := by decide
      rw [h2]; omega
    simp only [binOp, Op.stringOp, if_neg this]; rfl
  · cases h
theorem bin_float {op : BinOp} {k l : FloatKind} {m n : Nat} {z : FV} (h : binV op (.float k m) (.float l n) = some z) (t : TypeId) :
    ∃ u, (binOp op t (.float k m) (.float l n)).run P w = .ok u w ∧ FRel F z u := by
  simp only [binV] at h
  split at h
  · rename_i hkl
    subst hkl
    cases op <;> simp only [farith, cmpFloat] at h <;> first
      | (cases h; done)
      | (cases h; exact ⟨.bool _, by simp [binOp, Op.floatCmp], .bool _⟩)
      | skip
    all_goals
      split at h
      · rename_i r hq
        cases h
        exact ⟨.float k r, by simp [binOp, Op.floatArith, hq], .float _ _⟩
      · cases h
  · cases h
theorem bin_complex {op : BinOp} {k l : FloatKind} {m n p q : Nat} {z : FV} (h : binV op (.complex k m n) (.complex l p q) = some z) (t : TypeId) :
    ∃ u, (binOp op t (.complex k m n) (.complex l p q)).run P w = .ok u w ∧ FRel F z u := by
  simp only [binV] at h
  split at h
  · rename_i hkl
    subst hkl
    cases op <;> simp only at h <;> first
      | (cases h; done)
      | skip
    all_goals
      split at h
      · rename_i r i hr hi
        cases h
        simp only [farith] at hr hi
        exact ⟨.complex k r i, by simp [binOp, Op.complexOp, Op.Complex.arith, Op.floatArith, hr, hi], .complex _ _ _⟩
      · cases h
  · cases h
theorem bin_scalar {op : BinOp} {x y z : FV} (h : binV op x y = some z) {u1 u2 : Value} (r1 : FRel F x u1) (r2 : FRel F y u2) (t : TypeId) :
    ∃ u, (binOp op t u1 u2).run P w = .ok u w ∧ FRel F z u ∧ (∀ cs, u1 ≠ .agg cs) ∧ u1 ≠ .nilIface := by
  cases r1 <;> cases r2 <;> first
    | (simp only [binV] at h; cases h; done)
    | (obtain ⟨u, h1, h2⟩ := bin_int (P := P) (w := w) (F := F) h t; exact ⟨u, h1, h2, (by intro _ e; cases e), (by intro e; cases e)⟩)
    | (obtain ⟨u, h1, h2⟩ := bin_str (P := P) (w := w) (F := F) h t; exact ⟨u, h1, h2, (by intro _ e; cases e), (by intro e; cases e)⟩)
    | (obtain ⟨u, h1, h2⟩ := bin_float (P := P) (w := w) (F := F) h t; exact ⟨u, h1, h2, (by intro _ e; cases e), (by intro e; cases e)⟩)
    | (obtain ⟨u, h1, h2⟩ := bin_complex (P := P) (w := w) (F := F) h t; exact ⟨u, h1, h2, (by intro _ e; cases e), (by intro e; cases e)⟩)
/-- Is it nil? -/
def nilB : EqK → Value → Option Bool
  | .ptr, .pointer a => some a.isNone
  | .map, .map a => some a.isNone
  | .func, .nilFunc => some true
  | .func, .func _ _ _ => some false
  | _, _ => none
theorem isNil_rel {e : EqK} {x : AV} {u : Value} {b : Bool} (h : VRel F ε x u) (hb : isNil e x = some b) : nilB e u = some b ∧ (∀ cs, u ≠ .agg cs) ∧ u ≠ .nilIface := by
  cases h with
  | f h => cases h <;> cases e <;> simp [isNil] at hb <;> subst hb <;> exact ⟨rfl, (by intro _ e; cases e), (by intro e; cases e)⟩
  | _ => cases e <;> first | (simp [isNil] at hb; done) | (simp [isNil] at hb; subst hb; exact ⟨rfl, (by intro _ e; cases e), (by intro e; cases e)⟩)
theorem run_equal_nil {t : TypeId} {e : EqK} {op : BinOp} (he : eqOk P op t e = true) {u1 u2 : Value} {b1 b2 : Bool}
    (h1 : nilB e u1 = some b1) (h2 : nilB e u2 = some b2) (hb : (b1 || b2) = true) : (Op.equal t u1 u2).run P w = .ok (b1 && b2) w := by
  unfold Op.equal Op.maxDepth Op.equalIn
  unfold eqOk at he
  cases e <;> simp only [nilB] at h1 h2 <;> try (cases h1; done)
  all_goals
    simp only [Bool.and_eq_true] at he
    have he2 := he.2
    split at he2
    · rename_i hd
      simp only [Sem.run_bind, run_underlying hd, Result.andThen_ok]
      cases u1 <;> simp only [nilB] at h1 <;> first | (cases h1; done) | skip
      all_goals
        cases u2 <;> simp only [nilB] at h2 <;> first | (cases h2; done) | skip
      all_goals first
        | (rename_i a1 a2
           simp only [Option.some.injEq] at h1 h2
           subst h1; subst h2
           cases a1 <;> cases a2 <;> simp_all; done)
        | (simp only [Option.some.injEq] at h1 h2
           subst h1; subst h2
           simp_all)
    · cases he2
end
end Go.Ab
