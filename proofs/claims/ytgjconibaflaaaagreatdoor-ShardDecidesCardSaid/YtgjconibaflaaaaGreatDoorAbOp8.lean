/- One operation: stores; new vectors, maps. -/
import Derived.Test.YtgjconibaflaaaaGreatDoorAbOp7
namespace Go.Ab
open Go
set_option linter.unusedVariables false
set_option linter.unusedSimpArgs false

theorem splice_length {α : Type} (l : List α) (o : Nat) (x : List α) (h : o + x.length ≤ l.length) : (splice l o x).length = l.length := by
  simp [splice]; omega
theorem splice_get {α : Type} (l : List α) (o : Nat) (x : List α) (h : o + x.length ≤ l.length) (j : Nat) : (splice l o x)[j]? = if o ≤ j ∧ j < o + x.length then x[j - o]? else l[j]? := by
  unfold splice
  rw [List.append_assoc, List.getElem?_append]
  have h1 : (l.take o).length = o := by simp; omega
  rw [h1]
  split
  · rename_i hj
    rw [List.getElem?_take, if_pos hj, if_neg (by omega)]
  · rename_i hj
    rw [List.getElem?_append]
    split
    · rename_i hj2
      rw [if_pos (by omega)]
    · rename_i hj2
      rw [if_neg (by omega), List.getElem?_drop]
      congr 1; omega
theorem at2_set {α : Type} (rs : List (List α)) (i : Nat) (r : List α) (hi : i < rs.length) (i' j : Nat) : at2 (rs.set i r) i' j = if i' = i then r[j]? else at2 rs i' j := by
  unfold at2
  rw [List.getElem?_set]
  by_cases h : i = i'
  · subst h; simp [hi]
  · rw [if_neg h, if_neg (by omega)]
theorem at2_lt {α : Type} {rs : List (List α)} {i j : Nat} {x : α} (h : at2 rs i j = some x) : ∃ r, rs[i]? = some r ∧ r[j]? = some x := by
  unfold at2 at h
  cases hr : rs[i]? with
  | none => simp [hr] at h
  | some r => exact ⟨r, rfl, by simpa [hr] using h⟩
/-- Two cells of a row of rows are one only if both numbers are. -/
theorem idx_ne {k i j i' j' : Nat} (hj : j < k) (hj' : j' < k) (h : i * k + j = i' * k + j') : i = i' ∧ j = j' := by
  have h1 : i = i' := by
    rcases Nat.lt_trichotomy i i' with h1 | h1 | h1
    · have := Nat.mul_le_mul_right k (show i + 1 ≤ i' by omega)
      rw [Nat.add_mul, Nat.one_mul] at this; omega
    · exact h1
    · have := Nat.mul_le_mul_right k (show i' + 1 ≤ i by omega)
      rw [Nat.add_mul, Nat.one_mul] at this; omega
  subst h1
  exact ⟨rfl, by omega⟩
theorem idx_le {k i j n : Nat} (hi : i < n) (hj : j < k) : i * k + j < n * k := by
  have := Nat.mul_le_mul_right k (show i + 1 ≤ n by omega)
  rw [Nat.add_mul, Nat.one_mul] at this; omega
section
variable {P : Program} {F : Frz} {ε : Env} {w : World} {s s' : St} {a : Act} {o : Oper} {v : AV}

/-- A part of a row is written. -/
theorem CRel.write {l : Loc} {k : Nat} {rs : List (List AV)} {c : Nat} (hB : CRel F ε l k rs w) (hc : l.c = some c) {i j : Nat} {r : List AV} (hr : rs[i]? = some r) {cs : List AV} {us : List Value} (hle : j + cs.length ≤ r.length)
    (hrel : LRel F ε cs us) : ∃ ar e, w.heap[c]? = some (.cells ar e (0, 0)) ∧ l.base + i * k + j + us.length ≤ ar.size ∧
      CRel F ε l k (rs.set i (splice r j cs)) (setB w c (.cells (overA ar (l.base + i * k + j) us) e (0, 0))) := by
  obtain ⟨h1, h2, h3, h4, h5⟩ := hB
  simp only [hc] at h5
  obtain ⟨ar, e, hh, hsz, hcell⟩ := h5
  have hi : i < rs.length := (List.getElem?_eq_some_iff.1 hr).1
  have hrk : r.length = k := h3 r (List.mem_of_getElem? hr)
  have hin : i < l.C := by omega
  have hus : us.length = cs.length := hrel.1
  have hb : ∀ q, q < k → i * k + q < l.C * k := fun q hq => idx_le hin hq
  have hroom : l.base + i * k + j + us.length ≤ ar.size := by
    rcases Nat.eq_zero_or_pos k with hk | hk
    · have : us.length = 0 := by omega
      subst hk; omega
    · have := Nat.mul_le_mul_right k (show i + 1 ≤ l.C by omega)
      rw [Nat.add_mul, Nat.one_mul] at this
      omega
  refine ⟨ar, e, hh, hroom, h1, by simpa using h2, ?_, h4, ?_⟩
  · intro r' hr'
    rcases List.mem_or_eq_of_mem_set hr' with h | h
    · exact h3 r' h
    · subst h; rw [splice_length _ _ _ hle]; exact hrk
  · simp only [hc]
    refine ⟨_, e, by rw [setB_get, if_pos ⟨rfl, lt_of_some hh⟩], by rw [overA_size]; exact hsz, fun i' j' x hx => ?_⟩
    rw [at2_set _ _ _ hi] at hx
    have hov := overA_get ar (l.base + i * k + j) us hroom
    by_cases hii : i' = i
    · rw [if_pos hii] at hx
      subst hii
      rw [splice_get _ _ _ hle] at hx
      have hjk : j' < k := by
        by_cases h : j ≤ j' ∧ j' < j + cs.length
        · omega
        · rw [if_neg h] at hx
          have := (List.getElem?_eq_some_iff.1 hx).1; omega
      by_cases h : j ≤ j' ∧ j' < j + cs.length
      · rw [if_pos h] at hx
        have hlt : j' - j < us.length := by omega
        refine ⟨us[j' - j], ?_, hrel.2 _ _ _ hx (by simp [hlt])⟩
        rw [hov, if_pos (by omega)]
        rw [show l.base + i' * k + j' - (l.base + i' * k + j) = j' - j by omega]
        simp [hlt]
      · rw [if_neg h] at hx
        obtain ⟨u, hu1, hu2⟩ := hcell i' j' x (by simp [at2, hr, hx])
        refine ⟨u, ?_, hu2⟩
        rw [hov, if_neg (by omega)]; exact hu1
    · rw [if_neg hii] at hx
      obtain ⟨u, hu1, hu2⟩ := hcell i' j' x hx
      refine ⟨u, ?_, hu2⟩
      rw [hov, if_neg, hu1]
      intro hcon
      obtain ⟨r', hr1, hr2⟩ := at2_lt hx
      have hj' : j' < k := by have := (List.getElem?_eq_some_iff.1 hr2).1; rw [← h3 r' (List.mem_of_getElem? hr1)]; exact this
      obtain ⟨hcon1, hcon2⟩ := hcon
      have hq : ∃ q, q < k ∧ i' * k + j' = i * k + q := ⟨i' * k + j' - i * k, by omega, by omega⟩
      obtain ⟨q, hqk, hq⟩ := hq
      exact hii (idx_ne hj' hqk hq).1
theorem ofF_set (rs : List (List FV)) (i : Nat) (r : List FV) : ofF (rs.set i r) = (ofF rs).set i (r.map .f) := by simp [ofF, List.map_set]
theorem splice_map {α β : Type} (f : α → β) (l : List α) (o : Nat) (x : List α) : (splice l o x).map f = splice (l.map f) o (x.map f) := by simp [splice, List.map_take, List.map_drop]
theorem toF_rel {v : AV} {x : FV} {u : Value} (h : v.toF = some x) (hv : VRel F ε v u) : FRel F x u := by
  cases hv with
  | f hf => simp [AV.toF] at h; subst h; exact hf
  | sl0 k a => simp [AV.toF] at h; subst h; exact .sl0 _ _ _
  | _ => simp [AV.toF] at h
theorem toFs_rel : ∀ {vs : List AV} {xs : List FV} {us : List Value}, toFs vs = some xs → LRel F ε vs us → LRel F ε (xs.map .f) us
  | [], xs, us, h, hv => by simp [toFs] at h; subst h; exact hv
  | v :: vs, xs, us, h, hv => by
    simp only [toFs] at h
    split at h
    · rename_i x r hx hr
      cases h
      obtain ⟨u, us', rfl, h1, h2⟩ := hv.cons_inv
      exact LRel.cons (.f (toF_rel hx h1)) (toFs_rel hr h2)
    · cases h
theorem toFs_length : ∀ {vs : List AV} {xs : List FV}, toFs vs = some xs → xs.length = vs.length
  | [], xs, h => by simp [toFs] at h; subst h; rfl
  | v :: vs, xs, h => by
    simp only [toFs] at h
    split at h
    · rename_i x r hx hr
      cases h
      simp [toFs_length hr]
    · cases h
theorem op_store {t : TypeId} {x u : Operand} {y z : AX} {n : Nat} {cs : List AV} {h' : Heap} (ho : o.op = .store t x u) (hn : sizeIs P t n = true) (hx : chkX x y = true) (hu : chkX u z = true)
    (hs : (s.ev z).stored = some cs) (hl : cs.length = n) (hset : setCells s.hp (s.ev y) cs = some h') (W : WRel F ε s.hp w) (ht : TRel F ε s.tm a.tmps) : OpOk P o a F ε s.hp w (.tup []) h' := by
  have ry := ev_rel hx ht
  have rz := ev_rel hu ht
  obtain ⟨hst, hone, hsz⟩ := stored_rel rz hs
  have fin : ∀ id i j l c k rs r, s.ev y = .ptr id i j → ε id = some l → l.c = some c → ∀ B, s.hp.at id = some B → CRel F ε l k rs w → rs[i]? = some r → ∀ vs : List AV, vs.length = cs.length → LRel F ε vs (a.eval u).cells.toList → j + vs.length ≤ r.length →
      ∀ B', h' = s.hp.set id (some B') → (∀ w', CRel F ε l k (rs.set i (splice r j vs)) w' → BRel F ε l w' B') → OpOk P o a F ε s.hp w (.tup []) h' := by
    intro id i j l c k rs r hy hε hc B hat hB hr vs hvl hvs hle B' hh' hB'
    obtain ⟨ar, e, hh, hroom, hnew⟩ := hB.write hc hr hle hvs
    rw [hy] at ry
    generalize hq : a.eval x = q at ry
    cases ry with
    | ptr i j hε2 hc2 =>
      rw [hε] at hε2; cases hε2
      rw [hc] at hc2; cases hc2
      have hk : l.k = k := hB.1
      have hrun := run_storeCells (P := P) (c := c) (base := l.base + i * k + j) (e := e) (l := (a.eval u).cells.toList) (cs := ar) (w := w) 0 hh (by simpa using hroom) hone
      have W' := W.upd (o := .cells (overA ar (l.base + i * k + j) (a.eval u).cells.toList) e (0, 0)) hat hε hc (hB' _ hnew)
      subst hh'
      refine gives_skip (w' := setB w c (.cells (overA ar (l.base + i * k + j) (a.eval u).cells.toList) e (0, 0))) ?_ ⟨F, ε, ⟨FGrow.refl _ _ _ _, fun _ _ => rfl, by simp, W'.1, W'.2.1, W'.2.2⟩, .tup rfl (fun i v u hv => by simp at hv)⟩
      simp only [execOp, ho, hq]
      refine run_u ?_
      rw [hk]
      simp only [Instr.storeAt, Instr.sureAddr, Sem.run_bind, Sem.run_pure, Result.andThen_ok, storeVar, run_size hn]
      rw [Sem.run_ite, if_neg (by omega)]
      simpa using hrun
  cases hy : s.ev y with
  | ptr id i j =>
    rw [hy] at hset
    simp only [setCells] at hset
    split at hset
    · rename_i k rs hat
      split at hset
      · rename_i r hr
        split at hset
        · rename_i hle
          cases hset
          obtain ⟨l, hε, hB⟩ := W.blk id _ hat
          rw [hy] at ry
          generalize a.eval x = q at ry
          cases ry with
          | ptr i j hε2 hc2 =>
            rw [hε] at hε2; cases hε2
            exact fin id i j l _ k rs r hy hε hc2 _ hat hB hr cs rfl hst hle _ rfl (fun w' h => h)
        · cases hset
      · cases hset
    · rename_i k rs hat
      split at hset
      · rename_i r fs hr hfs
        split at hset
        · rename_i hle
          cases hset
          obtain ⟨l, hε, hB⟩ := W.blk id _ hat
          rw [hy] at ry
          generalize a.eval x = q at ry
          cases ry with
          | ptr i j hε2 hc2 =>
            rw [hε] at hε2; cases hε2
            have hB' : CRel F ε l k (ofF rs) w := hB
            refine fin id i j l _ k (ofF rs) (r.map .f) hy hε hc2 _ hat hB' (by simp [ofF, hr]) (fs.map .f) (by simpa using toFs_length hfs) (toFs_rel hfs hst) (by simpa using hle) _ rfl (fun w' h => ?_)
            show CRel F ε l k (ofF (rs.set i (splice r j fs))) w'
            rw [ofF_set, splice_map]; exact h
        · cases hset
      · cases hset
    · cases hset
  | _ => rw [hy] at hset; simp [setCells] at hset
theorem op_mkmap {t : TypeId} (ho : o.op = .makeMap t none) (W : WRel F ε s.hp w) : OpOk P o a F ε s.hp w (.mp s.hp.length) (s.hp ++ [some (.map [])]) := by
  obtain ⟨δ, h1, h2, h3, h4, h5, h6⟩ := W.push (.map []) (.map #[] 0) ⟨some w.heap.size, 0, 0, 0, 0⟩ rfl (fun δ _ => ⟨w.heap.size, #[], rfl, by simp, rfl, fun i e m he => by simp at he⟩)
  refine gives_value (w' := { w with heap := w.heap.push (.map #[] 0) }) ?_ ⟨F, δ, ⟨FGrow.refl _ _ _ _, h3, by simp, h4, h5, h6⟩, .mp h2 rfl⟩
  simp only [execOp, ho]
  exact run_v (by simp [Instr.makeMap])
end
end Go.Ab
