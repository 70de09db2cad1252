/- How the abstract machine's heap and the model's turn together. -/
import Derived.Test.YtgjconibaflaaaaGreatDoorAbRun
namespace Go.Ab
open Go
set_option linter.unusedVariables false
set_option linter.unusedSimpArgs false
section
variable {F : Frz} {ε : Env} {h : Heap} {w : World}

theorem WRel.blk_lt (W : WRel F ε h w) {id B l c} (h1 : h.at id = some B) (h2 : ε id = some l) (h3 : l.c = some c) : c < w.heap.size := by
  obtain ⟨l'', h4, h5⟩ := W.blk id B h1
  rw [h2] at h4; cases h4
  cases B with
  | frows k rs =>
    obtain ⟨_, _, _, _, h6⟩ := h5
    simp only [h3] at h6
    obtain ⟨cs, e, h7, _⟩ := h6
    exact lt_of_some h7
  | rows k rs =>
    obtain ⟨_, _, _, _, h6⟩ := h5
    simp only [h3] at h6
    obtain ⟨cs, e, h7, _⟩ := h6
    exact lt_of_some h7
  | map es =>
    obtain ⟨c', ents, h6, h7, _⟩ := h5
    rw [h3] at h6; cases h6
    exact lt_of_some h7
  | iter t p =>
    obtain ⟨c', h6, _, _, h7⟩ := h5
    rw [h3] at h6; cases h6
    exact lt_of_some h7
theorem WRel.at_loc (W : WRel F ε h w) {id B} (h1 : h.at id = some B) : ∃ l, ε id = some l ∧ BRel F ε l w B := W.blk id B h1

/-- A draw turns nothing. -/
theorem WRel.drew (W : WRel F ε h w) (n : Nat) : WRel F ε h { w with drawn := n } :=
  ⟨W.frz, fun id B hb => let ⟨l, a, b⟩ := W.blk id B hb; ⟨l, a, b.keep fun _ _ => rfl⟩, W.sep, W.inj, W.dom⟩
theorem Fr.drew (ε : Env) (h : Heap) (w : World) (n : Nat) : Fr ε h w { w with drawn := n } := ⟨rfl, rfl, rfl, Nat.le_refl _, fun _ _ _ => rfl, fun _ => rfl⟩

/-- What is one's own has no frozen range. -/
theorem BRel.fz {l : Loc} {B : Blk} (h : BRel F ε l w B) {c : Nat} (hc : l.c = some c) {a : Addr} (ha : a.block = c) : w.frozen? a = false := by
  cases B with
  | frows k rs =>
    obtain ⟨_, _, _, _, h6⟩ := h
    simp only [hc] at h6
    obtain ⟨cs, e, h7, _⟩ := h6
    exact frozen_plain (by rw [ha]; exact h7) (fun _ _ _ e => by cases e; rfl)
  | rows k rs =>
    obtain ⟨_, _, _, _, h6⟩ := h
    simp only [hc] at h6
    obtain ⟨cs, e, h7, _⟩ := h6
    exact frozen_plain (by rw [ha]; exact h7) (fun _ _ _ e => by cases e; rfl)
  | map es =>
    obtain ⟨c', ents, h6, h7, _⟩ := h
    rw [hc] at h6; cases h6
    exact frozen_plain (by rw [ha]; exact h7) (fun _ _ _ e => by cases e)
  | iter t p =>
    obtain ⟨c', h6, _, _, h7⟩ := h
    rw [hc] at h6; cases h6
    exact frozen_plain (by rw [ha]; exact h7) (fun _ _ _ e => by cases e)
/-- A block is written. -/
theorem WRel.upd (W : WRel F ε h w) {id : Nat} {B B' : Blk} {l : Loc} {c : Nat} {o : Obj} (hB : h.at id = some B) (he : ε id = some l) (hc : l.c = some c)
    (hrel : BRel F ε l (setB w c o) B') :
    WRel F ε (h.set id (some B')) (setB w c o) ∧ Fr ε h w (setB w c o) ∧ OwnSub ε h w ε (h.set id (some B')) := by
  have hlt := W.blk_lt hB he hc
  have hkeep : ∀ b, b ≠ c → (setB w c o).heap[b]? = w.heap[b]? := fun b hb => by rw [setB_get, if_neg (by omega)]
  have hid : id < h.length := Heap.at_lt hB
  refine ⟨⟨fun b o' hb => ?_, fun i B1 h1 => ?_, fun i B1 l1 c1 h1 e1 hc1 => ?_, fun i j B1 B2 l1 l2 c1 h1 h2 e1 e2 hc1 hc2 => ?_, fun i hi => W.dom i (by simpa using hi)⟩, ?_, ?_⟩
  · have hne : b ≠ c := fun e => by subst e; rw [W.sep id B l b hB he hc] at hb; cases hb
    rw [hkeep b hne]; exact W.frz b o' hb
  · rw [Heap.at_set] at h1
    split at h1
    · rename_i hi
      cases h1
      obtain ⟨rfl, _⟩ := hi
      exact ⟨l, he, hrel⟩
    · rename_i hi
      obtain ⟨l1, e1, r1⟩ := W.blk i B1 h1
      refine ⟨l1, e1, r1.keep fun c1 hc1 => hkeep c1 ?_⟩
      intro e
      subst e
      exact hi ⟨W.inj i id B1 B l1 l c1 h1 hB e1 he hc1 hc, hid⟩
  · rw [Heap.at_set] at h1
    split at h1
    · rename_i hi
      obtain ⟨rfl, _⟩ := hi
      exact W.sep i B l1 c1 hB e1 hc1
    · exact W.sep i B1 l1 c1 h1 e1 hc1
  · have hh : ∀ i B1, Heap.at (h.set id (some B')) i = some B1 → ∃ B2, h.at i = some B2 := by
      intro i B1 h1
      rw [Heap.at_set] at h1
      split at h1
      · rename_i hi; obtain ⟨rfl, _⟩ := hi; exact ⟨B, hB⟩
      · exact ⟨B1, h1⟩
    obtain ⟨D1, d1⟩ := hh i B1 h1
    obtain ⟨D2, d2⟩ := hh j B2 h2
    exact W.inj i j D1 D2 l1 l2 c1 d1 d2 e1 e2 hc1 hc2
  · refine ⟨rfl, rfl, rfl, by simp [setB], fun b hb hn => hkeep b fun e => hn ?_, fun x => ?_⟩
    · subst e
      exact ⟨id, B, l, hB, he, hc⟩
    · by_cases hx : x.block = c
      · obtain ⟨l', e1, r1⟩ := W.blk id B hB
        rw [he] at e1; cases e1
        rw [hrel.fz hc hx, r1.fz hc hx]
      · unfold World.frozen?
        rw [hkeep x.block hx]
  · intro b hb ⟨i, B1, l1, h1, e1, c1⟩
    rw [Heap.at_set] at h1
    split at h1
    · rename_i hi; obtain ⟨rfl, _⟩ := hi; exact ⟨i, B, l1, hB, e1, c1⟩
    · exact ⟨i, B1, l1, h1, e1, c1⟩
/-- A block without cells is written: nothing turns in the model. -/
theorem WRel.updV (W : WRel F ε h w) {id : Nat} {B B' : Blk} {l : Loc} (hB : h.at id = some B) (he : ε id = some l) (hc : l.c = none) (hrel : BRel F ε l w B') :
    WRel F ε (h.set id (some B')) w ∧ OwnSub ε h w ε (h.set id (some B')) := by
  have hh : ∀ i B1, Heap.at (h.set id (some B')) i = some B1 → ∃ B2, h.at i = some B2 := by
    intro i B1 h1
    rw [Heap.at_set] at h1
    split at h1
    · rename_i hi; obtain ⟨rfl, _⟩ := hi; exact ⟨B, hB⟩
    · exact ⟨B1, h1⟩
  refine ⟨⟨W.frz, fun i B1 h1 => ?_, fun i B1 l1 c1 h1 e1 hc1 => ?_, fun i j B1 B2 l1 l2 c1 h1 h2 e1 e2 hc1 hc2 => ?_, fun i hi => W.dom i (by simpa using hi)⟩, ?_⟩
  · rw [Heap.at_set] at h1
    split at h1
    · rename_i hi; cases h1; obtain ⟨rfl, _⟩ := hi
      exact ⟨l, he, hrel⟩
    · exact W.blk i B1 h1
  · obtain ⟨D1, d1⟩ := hh i B1 h1
    exact W.sep i D1 l1 c1 d1 e1 hc1
  · obtain ⟨D1, d1⟩ := hh i B1 h1
    obtain ⟨D2, d2⟩ := hh j B2 h2
    exact W.inj i j D1 D2 l1 l2 c1 d1 d2 e1 e2 hc1 hc2
  · intro b hb ⟨i, B1, l1, h1, e1, c1⟩
    obtain ⟨D1, d1⟩ := hh i B1 h1
    exact ⟨i, D1, l1, d1, e1, c1⟩
/-- A block is let go. -/
theorem WRel.drop (W : WRel F ε h w) (id : Nat) : WRel F ε (h.set id none) w ∧ OwnSub ε h w ε (h.set id none) := by
  have hh : ∀ i B1, Heap.at (h.set id none) i = some B1 → h.at i = some B1 := by
    intro i B1 h1
    rw [Heap.at_set] at h1
    split at h1
    · cases h1
    · exact h1
  refine ⟨⟨W.frz, fun i B1 h1 => W.blk i B1 (hh i B1 h1), fun i B1 l1 c1 h1 => W.sep i B1 l1 c1 (hh i B1 h1), fun i j B1 B2 l1 l2 c1 h1 h2 => W.inj i j B1 B2 l1 l2 c1 (hh i B1 h1) (hh j B2 h2), fun i hi => W.dom i (by simpa using hi)⟩, ?_⟩
  intro b hb ⟨i, B1, l1, h1, e1, c1⟩
  exact ⟨i, B1, l1, hh i B1 h1, e1, c1⟩
/-- A new name for cells that nobody has (or for none). -/
theorem WRel.name (W : WRel F ε h w) (B : Blk) (l : Loc)
    (hl : ∀ c, l.c = some c → c < w.heap.size ∧ F c = none ∧ ∀ id B' l', h.at id = some B' → ε id = some l' → l'.c ≠ some c)
    (hB : ∀ δ : Env, ε.le δ → BRel F δ l w B) :
    ∃ δ : Env, ε.le δ ∧ δ h.length = some l ∧ (∀ id, id < h.length → δ id = ε id) ∧ WRel F δ (h ++ [some B]) w ∧
      (∀ b, Own δ (h ++ [some B]) b → Own ε h b ∨ l.c = some b) := by
  let δ : Env := fun id => if id = h.length then some l else ε id
  have hδ : ε.le δ := by
    intro id l' he
    have : id ≠ h.length := fun e => by subst e; rw [W.dom _ (Nat.le_refl _)] at he; cases he
    simp [δ, this, he]
  have hold : ∀ id, id < h.length → δ id = ε id := fun id hid => by simp [δ]; omega
  refine ⟨δ, hδ, by simp [δ], hold, ?_, ?_⟩
  · refine ⟨W.frz, fun id B' hat => ?_, fun id B' l' c hat he hc => ?_, fun id id' B1 B2 l1 l2 c h1 h2 e1 e2 c1 c2 => ?_, fun id hid => ?_⟩
    · rw [Heap.at_append] at hat
      split at hat
      · obtain ⟨l', h1, h2⟩ := W.blk id B' hat
        exact ⟨l', hδ _ _ h1, h2.mono (Frz.le_refl _) hδ⟩
      · split at hat
        · rename_i hid; subst hid; cases hat
          exact ⟨l, by simp [δ], hB δ hδ⟩
        · cases hat
    · rw [Heap.at_append] at hat
      split at hat
      · rename_i hid
        rw [hold id hid] at he
        exact W.sep id B' l' c hat he hc
      · split at hat
        · rename_i hid; subst hid
          simp [δ] at he; subst he
          exact (hl c hc).2.1
        · cases hat
    · rw [Heap.at_append] at h1 h2
      by_cases a1 : id < h.length
      · rw [if_pos a1] at h1
        rw [hold id a1] at e1
        by_cases a2 : id' < h.length
        · rw [if_pos a2] at h2
          rw [hold id' a2] at e2
          exact W.inj id id' B1 B2 l1 l2 c h1 h2 e1 e2 c1 c2
        · rw [if_neg a2] at h2
          by_cases a3 : id' = h.length
          · subst a3
            simp [δ] at e2; subst e2
            exact absurd c1 ((hl c c2).2.2 id B1 l1 h1 e1)
          · rw [if_neg a3] at h2; cases h2
      · rw [if_neg a1] at h1
        by_cases a3 : id = h.length
        · subst a3
          simp [δ] at e1; subst e1
          by_cases a2 : id' < h.length
          · rw [if_pos a2] at h2
            rw [hold id' a2] at e2
            exact absurd c2 ((hl c c1).2.2 id' B2 l2 h2 e2)
          · rw [if_neg a2] at h2
            by_cases a4 : id' = h.length
            · exact a4.symm
            · rw [if_neg a4] at h2; cases h2
        · rw [if_neg a3] at h1; cases h1
    · simp at hid
      have : id ≠ h.length := by omega
      simp [δ, this, W.dom id (by omega)]
  · intro b ⟨id, B', l', hat, he, hc⟩
    rw [Heap.at_append] at hat
    split at hat
    · rename_i hid
      rw [hold id hid] at he
      exact .inl ⟨id, B', l', hat, he, hc⟩
    · split at hat
      · rename_i hid; subst hid
        simp [δ] at he; subst he
        exact .inr hc
      · cases hat
theorem WRel.nameV (W : WRel F ε h w) (k : Nat) (B : Blk) (hBk : B = .frows k [] ∨ B = .rows k []) :
    ∃ (δ : Env) (l : Loc), ε.le δ ∧ δ h.length = some l ∧ l.c = none ∧ l.n = 0 ∧ l.C = 0 ∧ l.k = k ∧ (∀ id, id < h.length → δ id = ε id) ∧ WRel F δ (h ++ [some B]) w ∧
      (∀ b, Own δ (h ++ [some B]) b → Own ε h b) := by
  obtain ⟨δ, h1, h2, h3, h4, h5⟩ := W.name B ⟨none, 0, k, 0, 0⟩ (fun c hc => by cases hc) (fun δ _ => by
    rcases hBk with rfl | rfl <;> exact ⟨rfl, rfl, by simp [ofF], Nat.le_refl _, rfl⟩)
  exact ⟨δ, _, h1, h2, rfl, rfl, rfl, rfl, h3, h4, fun b hb => (h5 b hb).resolve_right (by simp)⟩
end
end Go.Ab
