/- Functions without a body: what the model answers. -/
import Derived.Test.YtgjconibaflaaaaGreatDoorAbFun
import Derived.Test.YtgjconibaflaaaaGreatDoorAbPrimDefs
import Derived.Lib.Bytealg
namespace Go.Ab
open Go
set_option linter.unusedVariables false
set_option linter.unusedSimpArgs false
theorem idxB_eq (c : UInt8) : ∀ (l : List UInt8) (i : Nat), idxB (c.toNat : Int) l i = if Lib.indexByte l c = -1 then -1 else Lib.indexByte l c + i
  | [], i => by simp [idxB, Lib.indexByte]
  | b :: l, i => by
    unfold idxB Lib.indexByte
    by_cases h : b = c
    · subst h; simp
    · have h1 : ¬ ((b.toNat : Int) = (c.toNat : Int)) := fun e => h (UInt8.toNat_inj.1 (by omega))
      have h2 : (b == c) = false := by simpa using h
      rw [if_neg h1, h2, idxB_eq c l (i + 1)]
      simp only [Bool.false_eq_true, if_false]
      by_cases h3 : Lib.indexByte l c = -1
      · simp [h3]
      · have := Lib.indexByte_ge l c
        have h4 : (Lib.indexByte l c == -1) = false := by simpa using h3
        rw [if_neg h3, h4]
        simp only [Bool.false_eq_true, if_false]
        rw [if_neg (by omega)]
        push_cast; omega
theorem idxB_zero (l : List UInt8) (c : UInt8) : idxB (c.toNat : Int) l 0 = Lib.indexByte l c := by
  rw [idxB_eq]; split <;> simp_all
theorem bytesLess_cmp : ∀ (a b : List UInt8), Lib.compareBytes a b = if Op.bytesLess a b then -1 else if Op.bytesLess b a then 1 else 0
  | [], [] => rfl
  | [], _ :: _ => rfl
  | _ :: _, [] => rfl
  | a :: as, b :: bs => by
    simp only [Lib.compareBytes, Op.bytesLess]
    by_cases h1 : a < b
    · simp [h1]
    · by_cases h2 : b < a
      · have h3 : (a == b) = false := by
          simp only [beq_eq_false_iff_ne, ne_eq]
          rintro rfl; exact UInt8.lt_irrefl _ h2
        simp [h1, h2, h3]
      · have h3 : a = b := UInt8.le_antisymm (UInt8.not_lt.1 h2) (UInt8.not_lt.1 h1)
        subst h3
        rw [bytesLess_cmp as bs]
        simp [h1]
theorem indexByte_ok {P : Program} {f : FuncId} {fn : Func} (hf : P.funcs[f]? = some fn) (hname : (fn.name == "runtime.NumGoroutine") = false)
    (hb : fn.body.isNone = true) (hn : Extern.findNext fn = none) (he : Extern.find fn = some Extern.BytealgIndexByte.indexByte) : PrimOk P f indexByteP := by
  intro args h v h' hp F ε w us W ha
  unfold indexByteP at hp
  split at hp <;> first | (cases hp; done) | skip
  rename_i s c
  split at hp <;> first | (cases hp; done) | skip
  rename_i hc
  simp only [Option.some.injEq, Prod.mk.injEq] at hp
  obtain ⟨rfl, rfl⟩ := hp
  obtain ⟨u, us', rfl, hu, hn1⟩ := ha.cons_inv
  obtain ⟨u2, us'', rfl, hu2, hn2⟩ := hn1.cons_inv
  have := hn2.nil_inv; subst this
  have e1 : u = .string s := by cases hu with | f h => cases h; rfl
  have e2 : u2 = .int .u8 c := by cases hu2 with | f h => cases h; rfl
  subst e1 e2
  refine .inr ⟨.int .i64 (idxB c s.data.toList 0), w, ?_, F, ε, .refl W, .f (.int _ _)⟩
  rw [run_callFunc_extern hf hname hb hn he]
  show ((Extern.BytealgIndexByte.indexByte #[.string s, .int .u8 c]).run P w).andThen _ = _
  rw [run_indexByte_string, Lib.firstIdx_eq, Result.andThen_ok]
  have : c = (c.toNat.toUInt8.toNat : Int) := by
    simp only [Nat.toUInt8, UInt8.toNat_ofNat']
    omega
  rw [← idxB_zero, ← this]
theorem cmpstring_ok {P : Program} {f : FuncId} {fn : Func} (hf : P.funcs[f]? = some fn) (hname : (fn.name == "runtime.NumGoroutine") = false)
    (hb : fn.body.isNone = true) (hn : Extern.findNext fn = none) (he : Extern.find fn = some Extern.BytealgCompare.compare) : PrimOk P f cmpstringP := by
  intro args h v h' hp F ε w us W ha
  unfold cmpstringP at hp
  split at hp <;> first | (cases hp; done) | skip
  rename_i a b
  simp only [Option.some.injEq, Prod.mk.injEq] at hp
  obtain ⟨rfl, rfl⟩ := hp
  obtain ⟨u, us', rfl, hu, hn1⟩ := ha.cons_inv
  obtain ⟨u2, us'', rfl, hu2, hn2⟩ := hn1.cons_inv
  have := hn2.nil_inv; subst this
  have e1 : u = .string a := by cases hu with | f h => cases h; rfl
  have e2 : u2 = .string b := by cases hu2 with | f h => cases h; rfl
  subst e1 e2
  refine .inr ⟨.int .i64 (cmpStr3 a b), w, ?_, F, ε, .refl W, .f (.int _ _)⟩
  rw [run_callFunc_extern hf hname hb hn he]
  show ((Extern.BytealgCompare.compare #[.string a, .string b]).run P w).andThen _ = _
  rw [Lib.run_compareString, Result.andThen_ok, bytesLess_cmp]
  rfl
end Go.Ab
