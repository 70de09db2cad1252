/- Runs of the model's own reads and writes. -/
import Derived.Test.YtgjconibaflaaaaGreatDoorAbRel
import Derived.Laws.Sem
import Derived.Laws.World
namespace Go.Ab
open Go
set_option linter.unusedVariables false
set_option linter.unusedSimpArgs false

variable {P : Program} {w : World}

theorem add_eq (c base n : Nat) : (⟨c, base, none⟩ : Addr).add n = ⟨c, base + n, none⟩ := by
  unfold Addr.add
  split
  · rename_i h; subst h; rfl
  · rfl
theorem cell_of {c : Nat} {cs : Array Value} {e : TypeId} {fr : Nat × Nat} (h : w.heap[c]? = some (.cells cs e fr)) (j : Nat) : w.cell? ⟨c, j, none⟩ = cs[j]? := by
  simp [World.cell?, h]
theorem run_load {a : Addr} {v : Value} (h : w.cell? a = some v) : (load a).run P w = .ok v w := by
  simp [load, Sem.run, h]
theorem run_loadCellsFrom {c base : Nat} {us : List Value} : ∀ (i : Nat) (acc : Array Value), (∀ j v, us[j]? = some v → w.cell? ⟨c, base + (i + j), none⟩ = some v) →
    (loadCellsFrom ⟨c, base, none⟩ i us.length acc).run P w = .ok (acc ++ us.toArray) w := by
  induction us with
  | nil => intro i acc h; simp [loadCellsFrom]
  | cons u us ih =>
    intro i acc h
    simp only [List.length_cons, loadCellsFrom]
    have h0 : w.cell? ⟨c, base + i, none⟩ = some u := by simpa using h 0 u rfl
    rw [Sem.run_bind, add_eq, run_load h0]
    simp only [Result.andThen]
    rw [ih (i + 1) (acc.push u) (fun j v hj => by have := h (j + 1) v (by simpa using hj); rwa [show i + (j + 1) = i + 1 + j by omega] at this)]
    congr 1
    apply Array.ext'
    simp
theorem run_loadCells {c base : Nat} {us : List Value} (h : ∀ j v, us[j]? = some v → w.cell? ⟨c, base + j, none⟩ = some v) :
    (loadCells ⟨c, base, none⟩ us.length).run P w = .ok us.toArray w := by
  unfold loadCells
  rw [run_loadCellsFrom 0 #[] (fun j v hj => by simpa using h j v hj)]
  simp

/-- A row's cells with others written over some. -/
def overA (cs : Array Value) (off : Nat) : List Value → Array Value
  | [] => cs
  | v :: l => overA (cs.setIfInBounds off v) (off + 1) l
theorem overA_size (cs : Array Value) (off : Nat) (l : List Value) : (overA cs off l).size = cs.size := by
  induction l generalizing cs off with
  | nil => rfl
  | cons v l ih => simp [overA, ih]
theorem overA_get (cs : Array Value) (off : Nat) (l : List Value) (h : off + l.length ≤ cs.size) (j : Nat) :
    (overA cs off l)[j]? = if off ≤ j ∧ j < off + l.length then l[j - off]? else cs[j]? := by
  induction l generalizing cs off with
  | nil => simp [overA]; omega
  | cons v l ih =>
    simp only [List.length_cons] at h
    rw [overA, ih _ _ (by simp; omega)]
    by_cases h1 : j = off
    · subst h1
      rw [if_neg (by omega), if_pos (by simp)]
      rw [Array.getElem?_setIfInBounds_self]
      simp; omega
    · by_cases h2 : off + 1 ≤ j ∧ j < off + 1 + l.length
      · rw [if_pos h2, if_pos (by simp; omega)]
        rw [show j - off = (j - (off + 1)) + 1 by omega]
        simp
      · rw [if_neg h2, if_neg (by simp; omega), Array.getElem?_setIfInBounds_ne (by omega)]
def one : Value → Bool
  | .agg _ => false
  | .tuple _ => false
  | _ => true
theorem run_store {v : Value} (hv : one v = true) (a : Addr) {u : Value} (hc : w.cell? a = some u) (hf : w.frozen? a = false) :
    (store a v).run P w = .ok () (w.setCell a v) := by
  cases v <;> simp_all [store, Sem.run, one]
/-- A world with another block. -/
def setB (w : World) (c : Nat) (o : Obj) : World := { w with heap := w.heap.setIfInBounds c o }
theorem setB_get (w : World) (c : Nat) (o : Obj) (b : Nat) : (setB w c o).heap[b]? = if b = c ∧ c < w.heap.size then some o else w.heap[b]? := by
  unfold setB
  by_cases h : b = c
  · subst h
    by_cases h2 : b < w.heap.size
    · simp [h2]
    · simp [h2]
  · rw [if_neg (by omega)]
    exact Array.getElem?_setIfInBounds_ne (by omega)
theorem setB_self {c : Nat} {o : Obj} (h : w.heap[c]? = some o) : setB w c o = w := by
  obtain ⟨hp, tape, drawn, os, output⟩ := w
  simp only [setB]
  congr 1
  apply Array.ext_getElem?
  intro i
  by_cases hi : i = c
  · subst hi
    have : i < hp.size := lt_of_some (w := ⟨hp, tape, drawn, os, output⟩) h
    rw [Array.getElem?_setIfInBounds_self_of_lt this]; exact h.symm
  · exact Array.getElem?_setIfInBounds_ne (by omega)
theorem setB_setB (w : World) (c : Nat) (o o' : Obj) : setB (setB w c o) c o' = setB w c o' := by
  simp only [setB]
  congr 1
  apply Array.ext_getElem?
  intro i
  by_cases hi : i = c
  · subst hi
    by_cases h2 : i < w.heap.size
    · rw [Array.getElem?_setIfInBounds_self_of_lt (by simpa using h2), Array.getElem?_setIfInBounds_self_of_lt h2]
    · simp [h2]
  · rw [Array.getElem?_setIfInBounds_ne (by omega), Array.getElem?_setIfInBounds_ne (by omega), Array.getElem?_setIfInBounds_ne (by omega)]
theorem setCell_eq {c off : Nat} {cs : Array Value} {e : TypeId} {fr : Nat × Nat} (h : w.heap[c]? = some (.cells cs e fr)) (v : Value) :
    w.setCell ⟨c, off, none⟩ v = setB w c (.cells (cs.setIfInBounds off v) e fr) := by
  unfold World.setCell setB
  congr 1
  apply Array.ext_getElem?
  intro i
  rw [Array.getElem?_modify]
  by_cases hi : c = i
  · subst hi
    have := lt_of_some h
    rw [if_pos rfl, h, Array.getElem?_setIfInBounds_self_of_lt this]
    rfl
  · rw [if_neg hi, Array.getElem?_setIfInBounds_ne hi]
theorem run_storeCells {c base : Nat} {e : TypeId} : ∀ {l : List Value} {cs : Array Value} {w : World} (i : Nat), w.heap[c]? = some (.cells cs e (0, 0)) → base + i + l.length ≤ cs.size → (∀ v ∈ l, one v = true) →
    (storeCells ⟨c, base, none⟩ l i).run P w = .ok () (setB w c (.cells (overA cs (base + i) l) e (0, 0)))
  | [], cs, w, i, h, hl, ho => by simp [storeCells, overA, setB_self h]
  | v :: l, cs, w, i, h, hl, ho => by
    simp only [List.length_cons] at hl
    simp only [storeCells]
    have hcell : w.cell? ⟨c, base + i, none⟩ = some (cs[base + i]'(by omega)) := by
      rw [cell_of h]; simp
    have hfr : w.frozen? ⟨c, base + i, none⟩ = false := by simp [World.frozen?, h]
    rw [Sem.run_bind, add_eq, run_store (ho v (by simp)) _ hcell hfr]
    simp only [Result.andThen]
    rw [setCell_eq h]
    have hc := lt_of_some h
    rw [run_storeCells (l := l) (cs := cs.setIfInBounds (base + i) v) (i + 1) (by rw [setB_get, if_pos ⟨rfl, hc⟩]) (by simp; omega) (fun u hu => ho u (by simp [hu]))]
    rw [setB_setB]
    rfl
theorem VRel_one {F : Frz} {ε : Env} {v : AV} {u : Value} (h : VRel F ε v u) (hv : v.isCell = true) : one u = true := by
  cases h with
  | f h => cases h <;> rfl
  | dead => cases hv
  | agg => cases hv
  | tup => cases hv
  | _ => rfl
theorem VRel_cells1 {F : Frz} {ε : Env} {v : AV} {u : Value} (h : VRel F ε v u) (hv : v.isCell = true) : u.cells = #[u] := by
  have := VRel_one h hv
  cases u <;> first | rfl | cases this
/-- The cells that a value is stored as. -/
theorem stored_rel {F : Frz} {ε : Env} {v : AV} {u : Value} {cs : List AV} (h : VRel F ε v u) (hs : v.stored = some cs) :
    LRel F ε cs u.cells.toList ∧ (∀ x ∈ u.cells.toList, one x = true) ∧ u.cells.size = cs.length := by
  by_cases hc : v.isCell = true
  · have h1 : v.stored = some [v] := by
      cases v <;> simp_all [AV.stored, AV.isCell]
    rw [h1] at hs; cases hs
    rw [VRel_cells1 h hc]
    exact ⟨LRel.cons h (LRel.nil _ _), by simpa using VRel_one h hc, rfl⟩
  · cases h with
    | agg ha hh =>
      rename_i as us
      simp only [AV.stored] at hs
      split at hs
      · rename_i hall
        cases hs
        refine ⟨⟨by simpa [Value.cells] using ha, fun i x y hx hy => hh i x y hx (by simpa [Value.cells] using hy)⟩, fun x hx => ?_, by simpa [Value.cells] using ha⟩
        simp only [Value.cells] at hx
        obtain ⟨i, hi⟩ := List.getElem?_of_mem hx
        have hlt : i < cs.length := by
          have := (List.getElem?_eq_some_iff.1 hi).1
          simp at this; omega
        have h1 : cs[i]? = some cs[i] := by simp [hlt]
        exact VRel_one (hh i _ _ h1 (by simpa using hi)) (by
          have := List.all_eq_true.1 hall _ (List.mem_of_getElem? h1)
          exact this)
      · cases hs
    | tup => simp [AV.stored, AV.isCell] at hs
    | dead => simp [AV.stored, AV.isCell] at hs
    | _ => exact absurd rfl hc
end Go.Ab
