/- Is the abstract machine's code the model's? -/
import Derived.Test.YtgjconibaflaaaaGreatDoorAbUpd
namespace Go.Ab
open Go
set_option linter.unusedVariables false
set_option linter.unusedSimpArgs false

def sameC : Value → AV → Bool
  | .bool b, .f (.bool c) => b == c
  | .int k n, .f (.int l m) => decide (k = l) && decide (n = m)
  | .float k n, .f (.float l m) => decide (k = l) && decide (n = m)
  | .complex k n p, .f (.complex l m q) => decide (k = l) && decide (n = m) && decide (p = q)
  | .string s, .f (.str t) => decide (s.data = t.data)
  | .pointer none, .f .nilp => true
  | .map none, .f .nilm => true
  | .nilFunc, .f .nilf => true
  | .nilIface, .f .nili => true
  | .slice none 0 0, .sl0 _ => true
  | .func fn a b, .fn gn c d => decide (fn = gn) && a.size == 0 && b.size == 0 && c.length == 0 && d.length == 0
  | _, _ => false
def sameL : List Value → List AV → Bool
  | [], [] => true
  | v :: l, a :: r => sameC v a && sameL l r
  | _, _ => false
def sameV : Value → AV → Bool
  | .agg cs, .agg as => sameL cs.toList as
  | .tuple cs, .tup as => sameL cs.toList as
  | v, a => sameC v a
def chkX : Operand → AX → Bool
  | .tmp t, .t n => t == n
  | .const v, .c a => sameV v a
  | .func f, .c (.fn gn [] []) => decide (gn = .func f)
  | _, _ => false
def chkXs : List Operand → List AX → Bool
  | [], [] => true
  | x :: l, y :: r => chkX x y && chkXs l r
  | _, _ => false
def chkXo : Option Operand → Option AX → Bool
  | none, none => true
  | some x, some y => chkX x y
  | _, _ => false
section
variable (P : Program)
def sizeIs (t : TypeId) (n : Nat) : Bool := (P.info? t).any fun i => i.size == n
def aggOk (t : TypeId) (agg : Option Nat) : Bool :=
  match P.underlying t with
  | some (.struct _) => match agg with | some n => sizeIs P t n | none => false
  | some (.array _ _) => match agg with | some n => sizeIs P t n | none => false
  | some _ => agg.isNone
  | none => false
def zeroOk (t : TypeId) (z : List AV) : Bool := (P.info? t).any fun i => match i.zero with | some v => sameL v.cells.toList z | none => false
def chkParts (place : Nat → Option (Nat × Nat)) : List (Nat × Operand) → List (Nat × Nat × AX) → Bool
  | [], [] => true
  | (i, x) :: l, (off, n, y) :: r => decide (place i = some (off, n)) && chkX x y && chkParts place l r
  | _, _ => false
def fieldPlaces (fs : Array Field) (i : Nat) : Option (Nat × Nat) :=
  match fs[i]? with
  | some f => match P.info? f.type with | some j => some (f.offset, j.size) | none => none
  | none => none
def chkRow (k : Nat) : Nat → List (Nat × Operand) → List AX → Bool
  | _, [], [] => true
  | i, (j, x) :: l, y :: r => i == j && chkX x y && chkRow k (i + 1) l r
  | _, _, _ => false
def eqOk (op : BinOp) (t : TypeId) (e : EqK) : Bool :=
  match e with
  | .val => true
  | .bool => (match op with | .eql => true | .neq => true | _ => false) && (match P.underlying t with | some .bool => true | _ => false)
  | .ptr => (match op with | .eql => true | .neq => true | _ => false) && (match P.underlying t with | some (.pointer _) => true | _ => false)
  | .map => (match op with | .eql => true | .neq => true | _ => false) && (match P.underlying t with | some (.map _ _) => true | _ => false)
  | .func => (match op with | .eql => true | .neq => true | _ => false) && (match P.underlying t with | some (.func _ _ _) => true | _ => false)
  | .slice => false
def elemOk (t : TypeId) (k : Nat) : Bool := match P.underlying t with | some (.slice e) => sizeIs P e k | _ => false
def elemZero (t : TypeId) (z : List AV) : Bool := match P.underlying t with | some (.slice e) => zeroOk P e z | _ => false
def elemBytes (t : TypeId) (n : Nat) : Bool := match P.underlying t with | some (.slice e) => (P.info? e).any fun i => i.bytes == n | _ => false
def keyOk (t : TypeId) (str : Bool) : Bool := match P.underlying t with
  | some (.map k _) => match P.underlying k with | some (.int _) => !str | some .string => str | _ => false
  | _ => false
def ktOk (t : TypeId) (k : KT) : Bool := match P.underlying t, k with | some (.int _), .ti => true | some .string, .ts => true | some .bool, .tb => true | _, _ => false
def rowFs : List Field → List KT → Nat → Bool
  | [], [], _ => true
  | f :: fs, k :: l, i => decide (f.name ≠ "_") && f.offset == i && ktOk P f.type k && rowFs fs l (i + 1)
  | _, _, _ => false
/-- Rows of fields that are integers, strings and Booleans, one cell each. -/
def rowTy (t : TypeId) (l : List KT) : Bool := match P.underlying t with
  | some (.struct fs) => decide (2 ≤ l.length) && rowFs P fs.toList l 0 && !P.stoodInHeld t && !P.eqGuardType P.depth t
  | _ => false
def keyTyOk (t : TypeId) (k : KK) : Bool :=
  match k with
  | .one str => keyOk P t str
  | .agg l => match P.underlying t with
    | some (.map k _) => rowTy P k l
    | _ => false
def chkOp (op : Op) (ao : AOp) : Bool :=
  match ao with
  | .mv y => match op with | .move x => chkX x y | .assign x => chkX x y | _ => false
  | .pick c a b => match op with | .pick c' a' b' => chkX c' c && chkX a' a && chkX b' b | _ => false
  | .new k z => match op with | .alloc t => zeroOk P t z | _ => false
  | .box y => match op with | .box _ x => chkX x y | _ => false
  | .build z qs => match op with
    | .build t ps => zeroOk P t z && (match P.underlying t with
      | some (.struct fs) => fs.all (fun f => (P.info? f.type).isSome) && chkParts (fieldPlaces P fs) ps.toList qs
      | some (.array _ e) => match P.info? e with | some j => chkParts (fun i => some (i * j.size, j.size)) ps.toList qs | none => false
      | _ => false)
    | _ => false
  | .bslice k xs => match op with
    | .buildSlice t len ps => elemOk P t k && (match P.underlying t with
        | some (.slice e) => (P.info? e).any fun i => match i.zero with | some v => v.cells.size == k | none => false
        | _ => false) && decide (len * k ≤ 2 ^ 24) && decide (0 < k) && xs.length == len && chkRow k 0 ps.toList xs
    | _ => false
  | .load agg y => match op with | .load t x => aggOk P t agg && chkX x y | _ => false
  | .store n y v => match op with | .store t x u => sizeIs P t n && chkX x y && chkX u v | _ => false
  | .nilchk y => match op with | .nilCheck x => chkX x y | _ => false
  | .bin o e x y => match op with | .binOp o' t x' y' _ => decide (o' = o) && eqOk P o t e && chkX x' x && chkX y' y | _ => false
  | .not y => match op with | .unOp .not _ x => chkX x y | _ => false
  | .neg y => match op with | .unOp .neg _ x => chkX x y | _ => false
  | .conv c y => match op with
    | .convert s d x => chkX x y && (match c with
      | .toInt k => (P.underlying s).isSome && (match P.underlying d with | some (.int l) => decide (k = l) | _ => false)
      | .toFloat k => (P.underlying s).isSome && (match P.underlying d with | some (.float l) => decide (k = l) | _ => false)
      | .same => (match P.underlying s with | some .string => true | _ => false) && (match P.underlying d with | some .string => true | _ => false)
      | .strOfBytes => false
      | .strOfInt => (match P.underlying s with | some (.int _) => true | _ => false) && (match P.underlying d with | some .string => true | _ => false))
    | _ => false
  | .mkfn fn a b => match op with | .makeFunc gn a' b' => decide (gn = fn) && chkXs a'.toList a && chkXs b'.toList b | _ => false
  | .mkmap => match op with | .makeMap _ none => true | _ => false
  | .mkslice k z n => match op with
    | .makeSlice t l c => elemOk P t k && elemZero P t (z.map .f) && z.length == k && decide (0 < k) && (match P.underlying t with | some (.slice e) => (P.info? e).any fun i => decide (i.bytes ≤ 1024) | _ => false) && chkX l n && chkX c n
    | _ => false
  | .slice k y lo hi mx => match op with
    | .slice t x l h m => chkX x y && chkXo l lo && chkXo h hi && chkXo m mx && (match P.underlying t with
      | some .string => k == 0
      | some (.slice e) => sizeIs P e k && decide (0 < k)
      | _ => false)
    | _ => false
  | .faddr y off => match op with
    | .fieldAddr s x f => chkX x y && (match P.underlying s with
      | some (.struct fs) => match fs[f]? with | some fd => fd.offset == off && (P.info? fd.type).any fun i => decide (i.size ≠ 0) | none => false
      | _ => false)
    | _ => false
  | .iaddr k alen y j => match op with
    | .indexAddr t x i => chkX x y && chkX i j && (match P.underlying t with
      | some (.slice e) => alen.isNone && sizeIs P e k
      | some (.array n e) => decide (alen = some n) && sizeIs P e k
      | _ => false)
    | _ => false
  | .field off agg y => match op with
    | .field t x f => chkX x y && (match P.underlying t with
      | some (.struct fs) => match fs[f]? with | some fd => fd.offset == off && aggOk P fd.type agg | none => false
      | _ => false)
    | _ => false
  | .index k alen agg y j => match op with
    | .index t x i => chkX x y && chkX i j && (match P.underlying t with
      | some .string => alen.isNone
      | some (.array n e) => decide (alen = some n) && sizeIs P e k && aggOk P e agg && agg.getD 1 == k
      | _ => false)
    | _ => false
  | .lookup str z m key ok => match op with
    | .lookup t x i ok' => chkX x m && chkX i key && (ok == ok') && keyOk P t str && (match P.underlying t with
      | some (.map _ e) => (P.info? e).any fun i => match i.zero with | some v => sameV v z | none => false
      | _ => false)
    | _ => false
  | .mapset str m key v => match op with
    | .mapUpdate t m' k' v' => keyOk P t str && chkX m' m && chkX k' key && chkX v' v
    | .insert t m' k' v' => keyOk P t str && chkX m' m && chkX k' key && chkX v' v
    | _ => false
  | .extr y i => match op with | .extract x j => chkX x y && i == j | _ => false
  | .len lk y => match op with
    | .call { callee := .builtin .len, args, argTypes } => chkXs args.toList [y] && argTypes.size == 1 && (match lk, P.underlying (argTypes.getD 0 0) with
      | .str, some .string => true
      | .sl, some (.slice _) => true
      | .mp, some (.map _ _) => true
      | .arr m, some (.array n _) => decide (m = n)
      | _, _ => false)
    | _ => false
  | .append k bytes y x => match op with
    | .call { callee := .builtin .append, args, argTypes } => chkXs args.toList [y, x] && argTypes.size == 2 && elemOk P (argTypes.getD 0 0) k && elemBytes P (argTypes.getD 0 0) bytes && decide (0 < k) &&
        (match P.underlying (argTypes.getD 0 0) with
          | some (.slice e) => (P.info? e).any fun i => match i.zero with | some v => decide (v.cells.size = k) && v.cells.toList.all one | none => false
          | _ => false) &&
        (match P.underlying (argTypes.getD 1 0) with | some (.slice e) => sizeIs P e k | some .string => k == 1 | _ => false)
    | _ => false
  | .copy k y x => match op with
    | .call { callee := .builtin .copy, args, argTypes } => chkXs args.toList [y, x] && argTypes.size == 2 && (match P.underlying (argTypes.getD 0 0) with
      | some (.slice e) => sizeIs P e k
      | _ => false)
    | _ => false
  | .clear z y => match op with
    | .call { callee := .builtin .clear, args, argTypes } => chkXs args.toList [y] && argTypes.size == 1 && (match P.underlying (argTypes.getD 0 0) with
      | some (.slice e) => zeroOk P e (z.map .f) && sizeIs P e z.length && decide (0 < z.length)
      | _ => false)
    | _ => false
  | .delete _ _ _ => false
  | .min xs => match op with | .call { callee := .builtin .min, args, argTypes } => chkXs args.toList xs | _ => false
  | .max xs => match op with | .call { callee := .builtin .max, args, argTypes } => chkXs args.toList xs | _ => false
  | .complex x y => match op with | .call { callee := .builtin .complex, args, argTypes } => chkXs args.toList [x, y] | _ => false
  | .real x => match op with | .call { callee := .builtin .real, args, argTypes } => chkXs args.toList [x] | _ => false
  | .imag x => match op with | .call { callee := .builtin .imag, args, argTypes } => chkXs args.toList [x] | _ => false
  | .call f xs => match op with | .call { callee := .value (.func g), args, argTypes } => f == g && chkXs args.toList xs | _ => false
  | .callv x xs => match op with | .call { callee := .value y, args, argTypes } => chkX y x && chkXs args.toList xs | _ => false
  | .prim p xs => match p with
    | .range => match op, xs with | .range t x, [y] => chkX x y && (match P.underlying t with | some .string => true | _ => false) | _, _ => false
    | .next => match op, xs with | .next x true, [y] => chkX x y | _, _ => false
    | .entry k z => match op, xs with
      | .mapEntry t m k', [y, q] => chkX m y && chkX k' q && keyTyOk P t k && (match P.underlying t with
        | some (.map _ e) => (P.info? e).any fun i => match i.zero with | some v => sameV v z | none => false
        | _ => false)
      | _, _ => false
    | .look k z ok => match op, xs with
      | .lookup t m k' ok', [y, q] => chkX m y && chkX k' q && (ok == ok') && keyTyOk P t k && (match P.underlying t with
        | some (.map _ e) => (P.info? e).any fun i => match i.zero with | some v => sameV v z | none => false
        | _ => false)
      | _, _ => false
    | .put => match op, xs with | .entryStore _ m s v, [y, q, z] => chkX m y && chkX s q && chkX v z | _, _ => false
    | .eqs neg l => match op, xs with | .binOp o t x y _, [x', y'] => decide (o = if neg then .neq else .eql) && rowTy P t l && chkX x x' && chkX y y' | _, _ => false
  | .bad => false
end

/-! ### Operands -/
section
variable {F : Frz} {ε : Env}
theorem sameC_rel {v : Value} {a : AV} (h : sameC v a = true) : VRel F ε a v ∧ a.isCell = true := by
  unfold sameC at h
  split at h
  all_goals first
    | (exfalso; exact Bool.noConfusion h)
    | skip
  · have := eq_of_beq h; subst this; exact ⟨.f (.bool _), rfl⟩
  · simp at h; obtain ⟨rfl, rfl⟩ := h; exact ⟨.f (.int _ _), rfl⟩
  · simp at h; obtain ⟨rfl, rfl⟩ := h; exact ⟨.f (.float _ _), rfl⟩
  · simp at h; obtain ⟨⟨rfl, rfl⟩, rfl⟩ := h; exact ⟨.f (.complex _ _ _), rfl⟩
  · rename_i s t
    have : s = t := by cases s; cases t; simpa using h
    subst this; exact ⟨.f (.str _), rfl⟩
  · exact ⟨.f .nilp, rfl⟩
  · exact ⟨.f .nilm, rfl⟩
  · exact ⟨.f .nilf, rfl⟩
  · exact ⟨.f .nili, rfl⟩
  · exact ⟨.sl0 _ _, rfl⟩
  · rename_i fn a b gn c d
    simp only [Bool.and_eq_true, decide_eq_true_eq, beq_iff_eq] at h
    obtain ⟨⟨⟨⟨rfl, h1⟩, h2⟩, h3⟩, h4⟩ := h
    refine ⟨.fn _ (by omega) (by omega) (fun i v u hv => ?_) (fun i v u hv => ?_), rfl⟩
    · rw [List.length_eq_zero_iff] at h3; subst h3; simp at hv
    · rw [List.length_eq_zero_iff] at h4; subst h4; simp at hv
theorem sameL_rel : ∀ {l : List Value} {r : List AV}, sameL l r = true → LRel F ε r l ∧ r.all AV.isCell = true
  | [], [], _ => ⟨LRel.nil _ _, rfl⟩
  | v :: l, a :: r, h => by
    simp only [sameL, Bool.and_eq_true] at h
    obtain ⟨h1, h2⟩ := sameL_rel h.2
    obtain ⟨h3, h4⟩ := sameC_rel (F := F) (ε := ε) h.1
    exact ⟨LRel.cons h3 h1, by simp [h4]; simpa using h2⟩
  | [], _ :: _, h => by simp [sameL] at h
  | _ :: _, [], h => by simp [sameL] at h
theorem sameV_rel {v : Value} {a : AV} (h : sameV v a = true) : VRel F ε a v := by
  unfold sameV at h
  split at h
  · have := (sameL_rel (F := F) (ε := ε) h).1
    exact .agg (by simpa using this.1) (fun i x y hx hy => this.2 i x y hx (by simpa using hy))
  · have := (sameL_rel (F := F) (ε := ε) h).1
    exact .tup (by simpa using this.1) (fun i x y hx hy => this.2 i x y hx (by simpa using hy))
  · exact (sameC_rel h).1
theorem ev_rel {s : St} {a : Act} {x : Operand} {y : AX} (h : chkX x y = true) (ht : TRel F ε s.tm a.tmps) : VRel F ε (s.ev y) (a.eval x) := by
  unfold chkX at h
  split at h
  · have := eq_of_beq h; subst this
    exact ht _
  · exact sameV_rel h
  · simp at h; subst h
    exact .fn _ rfl rfl (fun i v u hv => by simp at hv) (fun i v u hv => by simp at hv)
  · cases h
theorem evs_rel {s : St} {a : Act} : ∀ {l : List Operand} {r : List AX}, chkXs l r = true → TRel F ε s.tm a.tmps → LRel F ε (r.map s.ev) (l.map a.eval)
  | [], [], _, _ => LRel.nil _ _
  | x :: l, y :: r, h, ht => by
    simp only [chkXs, Bool.and_eq_true] at h
    exact LRel.cons (ev_rel h.1 ht) (evs_rel h.2 ht)
  | [], _ :: _, h, _ => by simp [chkXs] at h
  | _ :: _, [], h, _ => by simp [chkXs] at h
end
end Go.Ab
