/- What the abstract machine's states say of the model's worlds. -/
import Derived.Test.YtgjconibaflaaaaGreatDoorAbLim
import Derived.Orders
namespace Go.Ab
open Go
set_option linter.unusedVariables false
set_option linter.unusedSimpArgs false

/-- Where a block of one's own lies: its row begins at 'base' of the model's block c (none: it has no cells), k cells an element, n elements, room for C. -/
structure Loc where
  c : Option Nat
  base : Nat
  k : Nat
  n : Nat
  C : Nat

abbrev Frz := Nat → Option Obj
abbrev Env := Nat → Option Loc
def Frz.le (F G : Frz) : Prop := ∀ b o, F b = some o → G b = some o
def Env.le (ε δ : Env) : Prop := ∀ id l, ε id = some l → δ id = some l
theorem Frz.le_refl (F : Frz) : F.le F := fun _ _ h => h
theorem Env.le_refl (ε : Env) : ε.le ε := fun _ _ h => h
theorem Frz.le_trans {F G H : Frz} (a : F.le G) (b : G.le H) : F.le H := fun _ _ h => b _ _ (a _ _ h)
theorem Env.le_trans {F G H : Env} (a : F.le G) (b : G.le H) : F.le H := fun _ _ h => b _ _ (a _ _ h)

def at2 {α : Type} (rs : List (List α)) (i j : Nat) : Option α := (rs[i]?).bind (·[j]?)

inductive FRel (F : Frz) : FV → Value → Prop
  | bool (b : Bool) : FRel F (.bool b) (.bool b)
  | int (k : IntKind) (n : Int) : FRel F (.int k n) (.int k n)
  | float (k : FloatKind) (n : Nat) : FRel F (.float k n) (.float k n)
  | complex (k : FloatKind) (a b : Nat) : FRel F (.complex k a b) (.complex k a b)
  | str (s : ByteArray) : FRel F (.str s) (.string s)
  | nilp : FRel F .nilp (.pointer none)
  | nilm : FRel F .nilm (.map none)
  | nilf : FRel F .nilf .nilFunc
  | nili : FRel F .nili .nilIface
  | sl0 (k : Nat) (a : Option Addr) (cap : Nat) : FRel F (.sl k []) (.slice a 0 cap)
  | sl (k : Nat) (rows : List (List FV)) (b off cap : Nat) (cs : Array Value) (e : TypeId) (fr : Nat × Nat) (vs : Nat → Nat → Value)
      (hF : F b = some (.cells cs e fr)) (hk : ∀ r ∈ rows, r.length = k)
      (hc : ∀ i j x, at2 rows i j = some x → cs[off + i * k + j]? = some (vs i j))
      (hv : ∀ i j x, at2 rows i j = some x → FRel F x (vs i j)) (hcap : rows.length ≤ cap) :
      FRel F (.sl k rows) (.slice (some ⟨b, off, none⟩) rows.length cap)

def SlAt (l : Loc) (off : Nat) (a : Option Addr) : Prop :=
  match l.c with
  | some c => l.C ≤ off ∨ a = some ⟨c, l.base + off * l.k, none⟩
  | none => l.C = 0

inductive VRel (F : Frz) (ε : Env) : AV → Value → Prop
  | f {v : FV} {u : Value} (h : FRel F v u) : VRel F ε (.f v) u
  | sl0 (k : Nat) (a : Option Addr) : VRel F ε (.sl0 k) (.slice a 0 0)
  | vec {id : Nat} {l : Loc} {a : Option Addr} (h : ε id = some l) (ha : SlAt l 0 a) : VRel F ε (.vec id) (.slice a l.n l.C)
  | sub {id off n : Nat} {l : Loc} {a : Option Addr} (h : ε id = some l) (hn : off + n ≤ l.n) (ha : SlAt l off a) : VRel F ε (.sub id off n) (.slice a n (l.C - off))
  | ptr {id c : Nat} {l : Loc} (i j : Nat) (h : ε id = some l) (hc : l.c = some c) : VRel F ε (.ptr id i j) (.pointer (some ⟨c, l.base + i * l.k + j, none⟩))
  | fptr (k : Nat) (rows : List (List FV)) (b off : Nat) (cs : Array Value) (e : TypeId) (fr : Nat × Nat) (i j : Nat)
      (hF : F b = some (.cells cs e fr)) (hk : ∀ r ∈ rows, r.length = k)
      (hc : ∀ i j x, at2 rows i j = some x → ∃ v, cs[off + i * k + j]? = some v ∧ FRel F x v) :
      VRel F ε (.fptr k rows i j) (.pointer (some ⟨b, off + i * k + j, none⟩))
  | mp {id c : Nat} {l : Loc} (h : ε id = some l) (hc : l.c = some c) : VRel F ε (.mp id) (.map (some c))
  | fn (fn : Fn) {as bs : List AV} {us ws : Array Value} (ha : us.size = as.length) (hb : ws.size = bs.length)
      (h : ∀ (i : Nat) v u, as[i]? = some v → us[i]? = some u → VRel F ε v u) (h' : ∀ (i : Nat) v u, bs[i]? = some v → ws[i]? = some u → VRel F ε v u) : VRel F ε (.fn fn as bs) (.func fn us ws)
  | agg {as : List AV} {us : Array Value} (ha : us.size = as.length) (h : ∀ (i : Nat) v u, as[i]? = some v → us[i]? = some u → VRel F ε v u) : VRel F ε (.agg as) (.agg us)
  | tup {as : List AV} {us : Array Value} (ha : us.size = as.length) (h : ∀ (i : Nat) v u, as[i]? = some v → us[i]? = some u → VRel F ε v u) : VRel F ε (.tup as) (.tuple us)
  | dead (u : Value) : VRel F ε .dead u

/-- Pointwise. -/
def LRel (F : Frz) (ε : Env) (as : List AV) (us : List Value) : Prop := us.length = as.length ∧ ∀ (i : Nat) v u, as[i]? = some v → us[i]? = some u → VRel F ε v u

theorem FRel.mono {F G : Frz} (hFG : F.le G) {v u} (h : FRel F v u) : FRel G v u := by
  induction h with
  | bool | int | float | complex | str | nilp | nilm | nilf | nili | sl0 => constructor
  | sl k rows b off cap cs e fr vs hF hk hc hv hcap ih => exact .sl k rows b off cap cs e fr vs (hFG _ _ hF) hk hc ih hcap
theorem VRel.mono {F G : Frz} {ε δ : Env} (hFG : F.le G) (hε : ε.le δ) {v u} (h : VRel F ε v u) : VRel G δ v u := by
  induction h with
  | f h => exact .f (h.mono hFG)
  | sl0 k a => exact .sl0 k a
  | vec h ha => exact .vec (hε _ _ h) ha
  | sub h hn ha => exact .sub (hε _ _ h) hn ha
  | ptr i j h hc => exact .ptr i j (hε _ _ h) hc
  | fptr k rows b off cs e fr i j hF hk hc => exact .fptr k rows b off cs e fr i j (hFG _ _ hF) hk (fun i j x hx => let ⟨v, h1, h2⟩ := hc i j x hx; ⟨v, h1, h2.mono hFG⟩)
  | mp h hc => exact .mp (hε _ _ h) hc
  | fn f ha hb h h' ih ih' => exact .fn f ha hb ih ih'
  | agg ha h ih => exact .agg ha ih
  | tup ha h ih => exact .tup ha ih
  | dead u => exact .dead u
theorem LRel.mono {F G : Frz} {ε δ : Env} (hFG : F.le G) (hε : ε.le δ) {v u} (h : LRel F ε v u) : LRel G δ v u :=
  ⟨h.1, fun i v u a b => (h.2 i v u a b).mono hFG hε⟩
theorem LRel.nil (F : Frz) (ε : Env) : LRel F ε [] [] := ⟨rfl, fun i v u h => by simp at h⟩
theorem LRel.cons {F : Frz} {ε : Env} {v u as us} (h : VRel F ε v u) (hs : LRel F ε as us) : LRel F ε (v :: as) (u :: us) := by
  refine ⟨by simp [hs.1], fun i x y hx hy => ?_⟩
  cases i with
  | zero => simp at hx hy; subst hx; subst hy; exact h
  | succ i => exact hs.2 i x y (by simpa using hx) (by simpa using hy)
theorem LRel.cons_inv {F : Frz} {ε : Env} {v as us} (h : LRel F ε (v :: as) us) : ∃ u us', us = u :: us' ∧ VRel F ε v u ∧ LRel F ε as us' := by
  cases us with
  | nil => simp [LRel] at h
  | cons u us' => exact ⟨u, us', rfl, h.2 0 _ _ rfl rfl, by simpa using h.1, fun i x y hx hy => h.2 (i + 1) x y (by simpa using hx) (by simpa using hy)⟩
theorem LRel.nil_inv {F : Frz} {ε : Env} {us} (h : LRel F ε [] us) : us = [] := by cases us with | nil => rfl | cons => simp [LRel] at h

def KRel (F : Frz) (key : List FV) (u : Value) : Prop :=
  match key with
  | [x] => FRel F x u
  | _ => ∃ us : Array Value, u = .agg us ∧ us.size = key.length ∧ ∀ (i : Nat) x y, key[i]? = some x → us[i]? = some y → FRel F x y
theorem KRel.one {F : Frz} {x : FV} {u : Value} (h : KRel F [x] u) : FRel F x u := h
theorem KRel.mono {F G : Frz} (hFG : F.le G) {key : List FV} {u : Value} (h : KRel F key u) : KRel G key u := by
  unfold KRel at h ⊢
  split at h
  · exact h.mono hFG
  · obtain ⟨us, h1, h2, h3⟩ := h
    exact ⟨us, h1, h2, fun i x y a b => (h3 i x y a b).mono hFG⟩
def ofB : Blk → List (List AV)
  | .frows _ rs => ofF rs
  | .rows _ rs => rs
  | _ => []
/-- The model's cells of rows. -/
def CRel (F : Frz) (ε : Env) (l : Loc) (k : Nat) (rs : List (List AV)) (w : World) : Prop :=
  l.k = k ∧ rs.length = l.n ∧ (∀ r ∈ rs, r.length = k) ∧ l.n ≤ l.C ∧
  match l.c with
  | none => l.C = 0
  | some c => ∃ cs e, w.heap[c]? = some (.cells cs e (0, 0)) ∧ l.base + l.C * k ≤ cs.size ∧ ∀ i j x, at2 rs i j = some x → ∃ u, cs[l.base + i * k + j]? = some u ∧ VRel F ε x u
def BRel (F : Frz) (ε : Env) (l : Loc) (w : World) : Blk → Prop
  | .frows k rs => CRel F ε l k (ofF rs) w
  | .rows k rs => CRel F ε l k rs w
  | .map es => ∃ c ents, l.c = some c ∧ w.heap[c]? = some (.map ents es.length) ∧ ents.size = es.length ∧
      ∀ (i : Nat) e m, es[i]? = some e → ents[i]? = some m → KRel F e.1 m.key ∧ VRel F ε e.2 m.val ∧ m.born = i
  | .iter t p => ∃ c, l.c = some c ∧ l.base = 0 ∧ l.k = 0 ∧ w.heap[c]? = some (.stringIter t p)

structure WRel (F : Frz) (ε : Env) (h : Heap) (w : World) : Prop where
  frz : ∀ b o, F b = some o → w.heap[b]? = some o
  blk : ∀ id B, h.at id = some B → ∃ l, ε id = some l ∧ BRel F ε l w B
  sep : ∀ id B l c, h.at id = some B → ε id = some l → l.c = some c → F c = none
  inj : ∀ id id' B B' l l' c, h.at id = some B → h.at id' = some B' → ε id = some l → ε id' = some l' → l.c = some c → l'.c = some c → id = id'
  dom : ∀ id, h.length ≤ id → ε id = none

def TRel (F : Frz) (ε : Env) (tm : List (Nat × AV)) (tmps : Array Value) : Prop := ∀ t, VRel F ε (look t tm) (tmps.getD t undef)

/-- The model's blocks that are one's own. -/
def Own (ε : Env) (h : Heap) (b : Nat) : Prop := ∃ id B l, h.at id = some B ∧ ε id = some l ∧ l.c = some b
/-- What is not one's own stays. -/
structure Fr (ε : Env) (h : Heap) (w w' : World) : Prop where
  os : w'.os = w.os
  tape : w'.tape = w.tape
  output : w'.output = w.output
  size : w.heap.size ≤ w'.heap.size
  keep : ∀ b, b < w.heap.size → ¬ Own ε h b → w'.heap[b]? = w.heap[b]?
  fz : ∀ a : Addr, w'.frozen? a = w.frozen? a
/-- What became one's own is new, or was. -/
def OwnSub (ε : Env) (h : Heap) (w : World) (ε' : Env) (h' : Heap) : Prop := ∀ b, b < w.heap.size → Own ε' h' b → Own ε h b
theorem Fr.refl (ε : Env) (h : Heap) (w : World) : Fr ε h w w := ⟨rfl, rfl, rfl, Nat.le_refl _, fun _ _ _ => rfl, fun _ => rfl⟩
theorem OwnSub.refl (ε : Env) (h : Heap) (w : World) : OwnSub ε h w ε h := fun _ _ h => h
theorem Fr.trans {ε ε' : Env} {h h' : Heap} {w w' w'' : World} (a : Fr ε h w w') (s : OwnSub ε h w ε' h') (b : Fr ε' h' w' w'') : Fr ε h w w'' :=
  ⟨b.os.trans a.os, b.tape.trans a.tape, b.output.trans a.output, Nat.le_trans a.size b.size,
   fun k hk hn => (b.keep k (Nat.lt_of_lt_of_le hk a.size) (fun ho => hn (s k hk ho))).trans (a.keep k hk hn), fun x => (b.fz x).trans (a.fz x)⟩
theorem OwnSub.trans {ε ε' ε'' : Env} {h h' h'' : Heap} {w w' : World} (a : OwnSub ε h w ε' h') (hs : w.heap.size ≤ w'.heap.size) (b : OwnSub ε' h' w' ε'' h'') : OwnSub ε h w ε'' h'' :=
  fun k hk ho => a k hk (b k (Nat.lt_of_lt_of_le hk hs) ho)

/-! ### Small laws -/
theorem at2_ofF (rs : List (List FV)) (i j : Nat) : at2 (ofF rs) i j = (at2 rs i j).map AV.f := by
  simp only [at2, ofF, List.getElem?_map]
  cases rs[i]? <;> simp
theorem look_cons (t u : Nat) (v : AV) (r : List (Nat × AV)) : look t ((u, v) :: r) = if t = u then v else look t r := rfl
theorem Heap.at_lt {h : Heap} {id : Nat} {B : Blk} (hB : h.at id = some B) : id < h.length := by
  unfold Heap.at at hB
  cases hh : h[id]? with
  | none => rw [hh] at hB; cases hB
  | some x => exact (List.getElem?_eq_some_iff.1 hh).1
theorem Heap.at_append {h : Heap} {b : Option Blk} (id : Nat) : Heap.at (h ++ [b]) id = if id < h.length then h.at id else if id = h.length then b else none := by
  unfold Heap.at
  by_cases h1 : id < h.length
  · rw [if_pos h1, List.getElem?_append_left h1]
  · rw [if_neg h1, List.getElem?_append_right (by omega)]
    by_cases h2 : id = h.length
    · subst h2; simp
    · rw [if_neg h2]
      have : ([b] : List (Option Blk))[id - h.length]? = none := by
        apply List.getElem?_eq_none; simp; omega
      rw [this]; rfl
theorem Heap.at_set {h : Heap} {id i : Nat} {b : Option Blk} : Heap.at (h.set id b) i = if i = id ∧ id < h.length then b else h.at i := by
  unfold Heap.at
  rw [List.getElem?_set]
  by_cases h1 : id = i
  · subst h1
    by_cases h2 : id < h.length
    · simp [h2]
    · simp [h2]
  · rw [if_neg h1, if_neg (by omega)]
theorem heap_push (w : World) (o : Obj) (b : Nat) : (w.heap.push o)[b]? = if b = w.heap.size then some o else w.heap[b]? := by
  rw [Array.getElem?_push]
theorem lt_of_some {w : World} {b : Nat} {o : Obj} (h : w.heap[b]? = some o) : b < w.heap.size := by
  rcases Nat.lt_or_ge b w.heap.size with h1 | h1
  · exact h1
  · simp [Array.getElem?_eq_none h1] at h

section
variable {F : Frz} {ε : Env} {h : Heap} {w : World}
/-- A world that has only grown, and in which what is one's own is as it was, says what it said. -/
theorem CRel.keep {l : Loc} {k rs} {w' : World} (hc : CRel F ε l k rs w) (hk : ∀ c, l.c = some c → w'.heap[c]? = w.heap[c]?) : CRel F ε l k rs w' := by
  obtain ⟨h1, h2, h3, h4, h5⟩ := hc
  refine ⟨h1, h2, h3, h4, ?_⟩
  cases hl : l.c with
  | none => simpa [hl] using h5
  | some c =>
    simp only [hl] at h5 ⊢
    obtain ⟨cs, e, a, b, d⟩ := h5
    exact ⟨cs, e, by rw [hk c hl]; exact a, b, d⟩
theorem BRel.keep {l : Loc} {B : Blk} {w' : World} (hc : BRel F ε l w B) (hk : ∀ c, l.c = some c → w'.heap[c]? = w.heap[c]?) : BRel F ε l w' B := by
  cases B with
  | frows k rs => exact CRel.keep hc hk
  | rows k rs => exact CRel.keep hc hk
  | map es =>
    obtain ⟨c, ents, h1, h2, h3, h4⟩ := hc
    exact ⟨c, ents, h1, by rw [hk c h1]; exact h2, h3, h4⟩
  | iter t p =>
    obtain ⟨c, h1, h2, h3, h4⟩ := hc
    exact ⟨c, h1, h2, h3, by rw [hk c h1]; exact h4⟩
theorem CRel.mono {G : Frz} {δ : Env} (hFG : F.le G) (hε : ε.le δ) {l : Loc} {k rs} (hc : CRel F ε l k rs w) : CRel G δ l k rs w := by
  obtain ⟨h1, h2, h3, h4, h5⟩ := hc
  refine ⟨h1, h2, h3, h4, ?_⟩
  cases hl : l.c with
  | none => simpa [hl] using h5
  | some c =>
    simp only [hl] at h5 ⊢
    obtain ⟨cs, e, a, b, d⟩ := h5
    exact ⟨cs, e, a, b, fun i j x hx => let ⟨u, p, q⟩ := d i j x hx; ⟨u, p, q.mono hFG hε⟩⟩
theorem BRel.mono {G : Frz} {δ : Env} (hFG : F.le G) (hε : ε.le δ) {l : Loc} {B : Blk} (hc : BRel F ε l w B) : BRel G δ l w B := by
  cases B with
  | frows k rs => exact CRel.mono hFG hε hc
  | rows k rs => exact CRel.mono hFG hε hc
  | map es =>
    obtain ⟨c, ents, h1, h2, h3, h4⟩ := hc
    exact ⟨c, ents, h1, h2, h3, fun i e m a b => let ⟨p, r, q⟩ := h4 i e m a b; ⟨p.mono hFG, r.mono hFG hε, q⟩⟩
  | iter t p => exact hc
theorem TRel.mono {G : Frz} {δ : Env} (hFG : F.le G) (hε : ε.le δ) {tm tmps} (ht : TRel F ε tm tmps) : TRel G δ tm tmps := fun t => (ht t).mono hFG hε
theorem TRel.put {tm : List (Nat × AV)} {tmps : Array Value} (ht : TRel F ε tm tmps) {d : Nat} (hd : d < tmps.size) {v : AV} {u : Value} (h : VRel F ε v u) : TRel F ε ((d, v) :: tm) (tmps.setIfInBounds d u) := by
  intro t
  rw [look_cons]
  by_cases e : t = d
  · subst e
    rw [if_pos rfl]
    simpa [Array.getD_eq_getD_getElem?, hd] using h
  · rw [if_neg e]
    have := ht t
    rw [Array.getD_eq_getD_getElem?] at this ⊢
    rwa [Array.getElem?_setIfInBounds_ne (by omega)]
/-- An object without a frozen range. -/
def plainO (o : Obj) : Prop := ∀ cs e fr, o = .cells cs e fr → fr = (0, 0)
theorem frozen_plain {w : World} {a : Addr} {o : Obj} (h : w.heap[a.block]? = some o) (ho : plainO o) : w.frozen? a = false := by
  unfold World.frozen?
  rw [h]
  cases o with
  | cells cs e fr => have := ho cs e fr rfl; subst this; simp
  | _ => rfl
theorem push_fz (w : World) {o : Obj} (ho : plainO o) (a : Addr) : World.frozen? { w with heap := w.heap.push o } a = w.frozen? a := by
  by_cases h : a.block = w.heap.size
  · have h1 : World.frozen? { w with heap := w.heap.push o } a = false := frozen_plain (o := o) (by show (w.heap.push o)[a.block]? = some o; rw [heap_push, if_pos h]) ho
    have h2 : w.heap[a.block]? = none := by rw [h]; simp
    rw [h1]
    simp [World.frozen?, h2]
  · unfold World.frozen?
    show (match (w.heap.push o)[a.block]? with | some (.cells _ _ (lo, hi)) => decide (lo ≤ a.off) && decide (a.off < hi) | _ => false) = _
    rw [heap_push, if_neg h]
    rfl
/-- A new block. -/
theorem WRel.push (W : WRel F ε h w) (B : Blk) (o : Obj) (l : Loc) (hl : l.c = some w.heap.size)
    (hB : ∀ δ : Env, ε.le δ → BRel F δ l { w with heap := w.heap.push o } B) (ho : plainO o := by intro cs e fr h; first | (cases h; done) | (cases h; rfl)) :
    ∃ δ : Env, ε.le δ ∧ δ h.length = some l ∧ (∀ id, id < h.length → δ id = ε id) ∧ WRel F δ (h ++ [some B]) { w with heap := w.heap.push o } ∧
      Fr ε h w { w with heap := w.heap.push o } ∧ OwnSub ε h w δ (h ++ [some B]) := by
  let δ : Env := fun id => if id = h.length then some l else ε id
  have hδ : ε.le δ := by
    intro id l' he
    have : id ≠ h.length := fun e => by subst e; rw [W.dom _ (Nat.le_refl _)] at he; cases he
    simp [δ, this, he]
  have hold : ∀ id, id < h.length → δ id = ε id := fun id hid => by simp [δ]; omega
  have hkeep : ∀ b, b < w.heap.size → (w.heap.push o)[b]? = w.heap[b]? := fun b hb => by rw [heap_push, if_neg (by omega)]
  have hlt : ∀ id B' l' c, h.at id = some B' → ε id = some l' → l'.c = some c → c < w.heap.size := by
    intro id B' l' c h1 h2 h3
    obtain ⟨l'', h4, h5⟩ := W.blk id B' h1
    rw [h2] at h4; cases h4
    cases B' with
    | frows k rs =>
      obtain ⟨_, _, _, _, h6⟩ := h5
      simp only [h3] at h6
      obtain ⟨cs, e, h7, _⟩ := h6
      exact lt_of_some h7
    | rows k rs =>
      obtain ⟨_, _, _, _, h6⟩ := h5
      simp only [h3] at h6
      obtain ⟨cs, e, h7, _⟩ := h6
      exact lt_of_some h7
    | map es =>
      obtain ⟨c', ents, h6, h7, _⟩ := h5
      rw [h3] at h6; cases h6
      exact lt_of_some h7
    | iter t p =>
      obtain ⟨c', h6, _, _, h7⟩ := h5
      rw [h3] at h6; cases h6
      exact lt_of_some h7
  refine ⟨δ, hδ, by simp [δ], hold, ?_, ⟨rfl, rfl, rfl, by simp, fun b hb _ => hkeep b hb, push_fz w ho⟩, ?_⟩
  · refine ⟨fun b o' hb => ?_, fun id B' hat => ?_, fun id B' l' c hat he hc => ?_, fun id id' B1 B2 l1 l2 c h1 h2 e1 e2 c1 c2 => ?_, fun id hid => ?_⟩
    · have := W.frz b o' hb
      show (w.heap.push o)[b]? = _
      rw [hkeep b (lt_of_some this)]; exact this
    · rw [Heap.at_append] at hat
      split at hat
      · rename_i hid
        obtain ⟨l', h1, h2⟩ := W.blk id B' hat
        refine ⟨l', hδ _ _ h1, (h2.mono (Frz.le_refl _) hδ).keep fun c hc => hkeep c (hlt id B' l' c hat h1 hc)⟩
      · split at hat
        · rename_i hid; subst hid; cases hat
          exact ⟨l, by simp [δ], hB δ hδ⟩
        · cases hat
    · rw [Heap.at_append] at hat
      split at hat
      · rename_i hid
        rw [hold id hid] at he
        exact W.sep id B' l' c hat he hc
      · split at hat
        · rename_i hid; subst hid
          simp [δ] at he; subst he
          rw [hl] at hc; cases hc
          cases hF : F w.heap.size with
          | none => rfl
          | some o' => exact absurd (lt_of_some (W.frz _ _ hF)) (by omega)
        · cases hat
    · rw [Heap.at_append] at h1 h2
      by_cases a1 : id < h.length
      · rw [if_pos a1] at h1
        rw [hold id a1] at e1
        by_cases a2 : id' < h.length
        · rw [if_pos a2] at h2
          rw [hold id' a2] at e2
          exact W.inj id id' B1 B2 l1 l2 c h1 h2 e1 e2 c1 c2
        · rw [if_neg a2] at h2
          by_cases a3 : id' = h.length
          · subst a3
            simp [δ] at e2; subst e2
            rw [hl] at c2; cases c2
            have := hlt id B1 l1 _ h1 e1 c1
            omega
          · rw [if_neg a3] at h2; cases h2
      · rw [if_neg a1] at h1
        by_cases a3 : id = h.length
        · subst a3
          simp [δ] at e1; subst e1
          rw [hl] at c1; cases c1
          by_cases a2 : id' < h.length
          · rw [if_pos a2] at h2
            rw [hold id' a2] at e2
            have := hlt id' B2 l2 _ h2 e2 c2
            omega
          · rw [if_neg a2] at h2
            by_cases a4 : id' = h.length
            · exact a4.symm
            · rw [if_neg a4] at h2; cases h2
        · rw [if_neg a3] at h1; cases h1
    · simp at hid
      have : id ≠ h.length := by omega
      simp [δ, this, W.dom id (by omega)]
  · intro b hb ⟨id, B', l', hat, he, hc⟩
    rw [Heap.at_append] at hat
    split at hat
    · rename_i hid
      rw [hold id hid] at he
      exact ⟨id, B', l', hat, he, hc⟩
    · split at hat
      · rename_i hid; subst hid
        simp [δ] at he; subst he
        rw [hl] at hc; cases hc
        omega
      · cases hat
end
end Go.Ab
