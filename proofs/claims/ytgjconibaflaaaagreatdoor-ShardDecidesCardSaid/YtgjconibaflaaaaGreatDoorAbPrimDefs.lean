/- Primitives: what they answer. -/
import Derived.Test.YtgjconibaflaaaaGreatDoorAbLim
namespace Go.Ab
open Go
/-- A table as a list. -/
def lk : List (Nat × Entry) → FuncId → Option Entry
  | [], _ => none
  | (g, e) :: l, f => if Nat.beq f g = true then some e else lk l f
theorem lk_mem : ∀ {l : List (Nat × Entry)} {f : FuncId} {e : Entry}, lk l f = some e → (f, e) ∈ l
  | [], f, e, h => by cases h
  | (g, e') :: l, f, e, h => by
    simp only [lk] at h
    split at h
    · rename_i hb
      cases h
      have : f = g := Nat.eq_of_beq_eq_true hb
      subst this; simp
    · exact List.mem_cons_of_mem _ (lk_mem h)
def insertP (k : Nat) : List AV → Heap → Option (AV × Heap) := fun args h =>
  match args with
  | [.vec id, .f (.int .i64 i), .vec idv] => match h.at id, h.at idv with
    | some b, some xs => if id ≠ idv ∧ b.width = some k ∧ xs.width = some k ∧ b.whole = true ∧ xs.whole = true ∧ xs.count = 1 ∧ 0 ≤ i ∧ i.toNat ≤ b.count ∧ b.count < lim then
        match Blk.join (b.take i.toNat) xs with
        | some b1 => match Blk.join b1 (b.drop i.toNat) with
          | some b2 => some (.vec h.length, (h.set id none) ++ [some b2])
          | none => none
        | none => none
      else none
    | _, _ => none
  | [.sl0 q, .f (.int .i64 i), .vec idv] => match h.at idv with
    | some xs => if q = k ∧ xs.width = some k ∧ xs.whole = true ∧ xs.count = 1 ∧ i = 0 then
        match Blk.join (.frows k []) xs with
        | some b2 => some (.vec h.length, h ++ [some b2])
        | none => none
      else none
    | none => none
  | _ => none
def idxB (c : Int) : List UInt8 → Nat → Int
  | [], _ => -1
  | b :: l, i => if (b.toNat : Int) = c then i else idxB c l (i + 1)
def indexByteP : List AV → Heap → Option (AV × Heap) := fun args h =>
  match args with
  | [.f (.str s), .f (.int .u8 c)] => if 0 ≤ c ∧ c < 256 then some (.f (.int .i64 (idxB c s.data.toList 0)), h) else none
  | _ => none
def cmpStr3 (a b : ByteArray) : Int := if strLt a b then -1 else if strLt b a then 1 else 0
def cmpstringP : List AV → Heap → Option (AV × Heap) := fun args h =>
  match args with
  | [.f (.str a), .f (.str b)] => some (.f (.int .i64 (cmpStr3 a b)), h)
  | _ => none
def isStr : AV → Bool
  | .f (.str _) => true
  | _ => false
def cloneP (k : Nat) : List AV → Heap → Option (AV × Heap) := fun args h =>
  match args with
  | [x] => match cont h x with
    | some xs => if isStr x = false ∧ xs.whole = true ∧ xs.width = some k ∧ xs.count ≤ lim then match Blk.join (.frows k []) xs with
      | some b => some (.vec h.length, h ++ [some b])
      | none => none else none
    | none => none
  | _ => none
end Go.Ab
