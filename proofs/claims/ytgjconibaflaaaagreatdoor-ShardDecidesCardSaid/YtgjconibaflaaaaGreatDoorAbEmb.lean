/- Frames: what is done in some blocks, seen from all. -/
import Derived.Test.YtgjconibaflaaaaGreatDoorAbOpD
namespace Go.Ab
open Go
set_option linter.unusedVariables false
set_option linter.unusedSimpArgs false

structure WF (F : Frz) (ε : Env) (m : Nat → Option Blk) (w : World) : Prop where
  frz : ∀ b o, F b = some o → w.heap[b]? = some o
  blk : ∀ id B, m id = some B → ∃ l, ε id = some l ∧ BRel F ε l w B
  sep : ∀ id B l c, m id = some B → ε id = some l → l.c = some c → F c = none
  inj : ∀ id id' B B' l l' c, m id = some B → m id' = some B' → ε id = some l → ε id' = some l' → l.c = some c → l'.c = some c → id = id'
def OwnF (ε : Env) (m : Nat → Option Blk) (b : Nat) : Prop := ∃ id B l, m id = some B ∧ ε id = some l ∧ l.c = some b
theorem WRel.wf {F ε h w} (W : WRel F ε h w) : WF F ε h.at w := ⟨W.frz, W.blk, W.sep, W.inj⟩
theorem WF.rel {F ε w} {h : Heap} (W : WF F ε h.at w) (d : ∀ id, h.length ≤ id → ε id = none) : WRel F ε h w := ⟨W.frz, W.blk, W.sep, W.inj, d⟩

/-- A renaming takes names to names of the same place. -/
def Carry (τ : Nat → Option Nat) (δ ε : Env) : Prop := ∀ i j l, τ i = some j → δ i = some l → ε j = some l
theorem renL_map (τ : Nat → Option Nat) : ∀ l, renL τ l = l.map (AV.ren τ)
  | [] => rfl
  | v :: l => by simp [renL, renL_map τ l]
theorem renLL_map (τ : Nat → Option Nat) : ∀ l, renLL τ l = l.map (List.map (AV.ren τ))
  | [] => rfl
  | v :: l => by simp [renLL, renLL_map τ l, renL_map]
theorem renE_map (τ : Nat → Option Nat) : ∀ l, renE τ l = l.map fun e => (e.1, e.2.ren τ)
  | [] => rfl
  | (k, v) :: l => by simp [renE, renE_map τ l]
theorem VRel.ren {F : Frz} {δ ε : Env} {τ : Nat → Option Nat} (hc : Carry τ δ ε) {v : AV} {u : Value} (h : VRel F δ v u) : VRel F ε (v.ren τ) u := by
  induction h with
  | f h => exact .f h
  | sl0 k a => exact .sl0 k a
  | vec h ha =>
    simp only [AV.ren]
    split
    · exact .vec (hc _ _ _ ‹_› h) ha
    · exact .dead _
  | sub h hn ha =>
    simp only [AV.ren]
    split
    · exact .sub (hc _ _ _ ‹_› h) hn ha
    · exact .dead _
  | ptr i j h hl =>
    simp only [AV.ren]
    split
    · exact .ptr i j (hc _ _ _ ‹_› h) hl
    · exact .dead _
  | fptr k rows b off cs e fr i j hF hk hcc => exact .fptr k rows b off cs e fr i j hF hk hcc
  | mp h hl =>
    simp only [AV.ren]
    split
    · exact .mp (hc _ _ _ ‹_› h) hl
    · exact .dead _
  | fn f ha hb h h' ih ih' =>
    simp only [AV.ren, renL_map]
    refine .fn f (by simpa using ha) (by simpa using hb) (fun i v u hv hu => ?_) (fun i v u hv hu => ?_)
    · rw [List.getElem?_map] at hv
      obtain ⟨x, hx, rfl⟩ := Option.map_eq_some_iff.1 hv
      exact ih i x u hx hu
    · rw [List.getElem?_map] at hv
      obtain ⟨x, hx, rfl⟩ := Option.map_eq_some_iff.1 hv
      exact ih' i x u hx hu
  | agg ha h ih =>
    simp only [AV.ren, renL_map]
    refine .agg (by simpa using ha) (fun i v u hv hu => ?_)
    rw [List.getElem?_map] at hv
    obtain ⟨x, hx, rfl⟩ := Option.map_eq_some_iff.1 hv
    exact ih i x u hx hu
  | tup ha h ih =>
    simp only [AV.ren, renL_map]
    refine .tup (by simpa using ha) (fun i v u hv hu => ?_)
    rw [List.getElem?_map] at hv
    obtain ⟨x, hx, rfl⟩ := Option.map_eq_some_iff.1 hv
    exact ih i x u hx hu
  | dead u => exact .dead u
theorem LRel.ren {F : Frz} {δ ε : Env} {τ : Nat → Option Nat} (hc : Carry τ δ ε) {vs : List AV} {us : List Value} (h : LRel F δ vs us) : LRel F ε (renL τ vs) us := by
  rw [renL_map]
  refine ⟨by simpa using h.1, fun i v u hv hu => ?_⟩
  rw [List.getElem?_map] at hv
  obtain ⟨x, hx, rfl⟩ := Option.map_eq_some_iff.1 hv
  exact (h.2 i x u hx hu).ren hc
theorem at2_map {α β : Type} (f : α → β) (rs : List (List α)) (i j : Nat) : at2 (rs.map (List.map f)) i j = (at2 rs i j).map f := by
  simp only [at2, List.getElem?_map]
  cases rs[i]? <;> simp
theorem CRel.ren {F : Frz} {δ ε : Env} {τ : Nat → Option Nat} (hc : Carry τ δ ε) {l : Loc} {k : Nat} {rs : List (List AV)} {w : World} (h : CRel F δ l k rs w) : CRel F ε l k (renLL τ rs) w := by
  rw [renLL_map]
  obtain ⟨h1, h2, h3, h4, h5⟩ := h
  refine ⟨h1, by simpa using h2, fun r hr => ?_, h4, ?_⟩
  · obtain ⟨q, hq, rfl⟩ := List.mem_map.1 hr
    simpa using h3 q hq
  · cases hl : l.c with
    | none => simpa [hl] using h5
    | some c =>
      simp only [hl] at h5 ⊢
      obtain ⟨cs, e, a, b, d⟩ := h5
      refine ⟨cs, e, a, b, fun i j x hx => ?_⟩
      rw [at2_map] at hx
      obtain ⟨y, hy, rfl⟩ := Option.map_eq_some_iff.1 hx
      obtain ⟨u, p, q⟩ := d i j y hy
      exact ⟨u, p, q.ren hc⟩
theorem BRel.ren {F : Frz} {δ ε : Env} {τ : Nat → Option Nat} (hc : Carry τ δ ε) {l : Loc} {B : Blk} {w : World} (h : BRel F δ l w B) : BRel F ε l w (B.ren τ) := by
  cases B with
  | frows k rs =>
    obtain ⟨h1, h2, h3, h4, h5⟩ := h
    refine ⟨h1, h2, h3, h4, ?_⟩
    cases hl : l.c with
    | none => simpa [hl] using h5
    | some c =>
      simp only [hl] at h5 ⊢
      obtain ⟨cs, e, a, b, d⟩ := h5
      refine ⟨cs, e, a, b, fun i j x hx => ?_⟩
      obtain ⟨u, p, q⟩ := d i j x hx
      rw [at2_ofF] at hx
      obtain ⟨y, hy, rfl⟩ := Option.map_eq_some_iff.1 hx
      exact ⟨u, p, by cases q with | f q => exact .f q⟩
  | rows k rs => exact CRel.ren hc h
  | map es =>
    obtain ⟨c, ents, h1, h2, h3, h4⟩ := h
    simp only [Blk.ren, renE_map]
    refine ⟨c, ents, h1, by simpa using h2, by simpa using h3, fun i e m he hm => ?_⟩
    rw [List.getElem?_map] at he
    obtain ⟨e', he', rfl⟩ := Option.map_eq_some_iff.1 he
    exact ⟨(h4 i e' m he' hm).1, (h4 i e' m he' hm).2.1.ren hc, (h4 i e' m he' hm).2.2⟩
  | iter t p => exact h
theorem BRel.own_lt {F : Frz} {ε : Env} {l : Loc} {B : Blk} {w : World} (h : BRel F ε l w B) {c : Nat} (hc : l.c = some c) : c < w.heap.size := by
  cases B with
  | frows k rs =>
    obtain ⟨_, _, _, _, h6⟩ := h
    simp only [hc] at h6
    obtain ⟨cs, e, h7, _⟩ := h6
    exact lt_of_some h7
  | rows k rs =>
    obtain ⟨_, _, _, _, h6⟩ := h
    simp only [hc] at h6
    obtain ⟨cs, e, h7, _⟩ := h6
    exact lt_of_some h7
  | map es =>
    obtain ⟨c', ents, h6, h7, _⟩ := h
    rw [hc] at h6; cases h6
    exact lt_of_some h7
  | iter t p =>
    obtain ⟨c', h6, _, _, h7⟩ := h
    rw [hc] at h6; cases h6
    exact lt_of_some h7

section
variable {F F' : Frz} {ε ε' δ δ' : Env} {m m' : Nat → Option Blk} {w w' : World} {k k' : Heap} {R : Nat → Nat} {τ ρ : Nat → Option Nat}
/-- Some blocks alone. -/
theorem WF.sub (W : WF F ε m w) (hk : ∀ i B0, k.at i = some B0 → ∃ B, m (R i) = some B ∧ B0 = B.ren ρ ∧ δ i = ε (R i)) (hinj : ∀ i j B B', k.at i = some B → k.at j = some B' → R i = R j → i = j) (hc : Carry ρ ε δ)
    (hd : ∀ i, k.length ≤ i → δ i = none) : WRel F δ k w := by
  refine ⟨W.frz, fun i B0 hi => ?_, fun i B0 l c hi he hc' => ?_, fun i j B B' l l' c hi hj he he' hc1 hc2 => ?_, hd⟩
  · obtain ⟨B, h1, rfl, h3⟩ := hk i B0 hi
    obtain ⟨l, e1, e2⟩ := W.blk _ _ h1
    exact ⟨l, h3.trans e1, e2.ren hc⟩
  · obtain ⟨B, h1, h2, h3⟩ := hk i B0 hi
    exact W.sep _ B l c h1 (h3 ▸ he) hc'
  · obtain ⟨B1, a1, a2, a3⟩ := hk i B hi
    obtain ⟨B2, b1, b2, b3⟩ := hk j B' hj
    exact hinj i j B B' hi hj (W.inj _ _ B1 B2 l l' c a1 b1 (a3 ▸ he) (b3 ▸ he') hc1 hc2)
structure PostF (F : Frz) (ε : Env) (m : Nat → Option Blk) (w : World) (F' : Frz) (ε' : Env) (m' : Nat → Option Blk) (w' : World) : Prop where
  le : F.le F'
  grow : ∀ b o, F' b = some o → F b = some o ∨ OwnF ε m b ∨ w.heap.size ≤ b
  W : WF F' ε' m' w'
  os : w'.os = w.os
  tape : w'.tape = w.tape
  output : w'.output = w.output
  size : w.heap.size ≤ w'.heap.size
  keep : ∀ b, b < w.heap.size → ¬ OwnF ε m b → w'.heap[b]? = w.heap[b]?
  own : ∀ b, b < w.heap.size → OwnF ε' m' b → OwnF ε m b
  fz : ∀ a : Addr, w'.frozen? a = w.frozen? a
theorem Post.f {h h' : Heap} (p : Post F ε h w F' ε' h' w') : PostF F ε h.at w F' ε' h'.at w' := ⟨p.le, p.grow.2, p.W.wf, p.fr.os, p.fr.tape, p.fr.output, p.fr.size, p.fr.keep, p.own, p.fr.fz⟩
theorem PostF.post {h h' : Heap} (p : PostF F ε h.at w F' ε' h'.at w') (he : ∀ id, id < h.length → ε' id = ε id) (hl : h.length ≤ h'.length) (hd : ∀ id, h'.length ≤ id → ε' id = none) : Post F ε h w F' ε' h' w' :=
  ⟨⟨p.le, p.grow⟩, he, hl, p.W.rel hd, ⟨p.os, p.tape, p.output, p.size, p.keep, p.fz⟩, p.own⟩
theorem PostF.refl (W : WF F ε m w) : PostF F ε m w F ε m w := ⟨Frz.le_refl _, fun _ _ h => .inl h, W, rfl, rfl, rfl, Nat.le_refl _, fun _ _ _ => rfl, fun _ _ h => h, fun _ => rfl⟩
theorem PostF.trans {F2 : Frz} {ε2 : Env} {m2 : Nat → Option Blk} {w2 : World} (a : PostF F ε m w F' ε' m' w') (b : PostF F' ε' m' w' F2 ε2 m2 w2) : PostF F ε m w F2 ε2 m2 w2 := by
  refine ⟨Frz.le_trans a.le b.le, fun c o hc => ?_, b.W, b.os.trans a.os, b.tape.trans a.tape, b.output.trans a.output, Nat.le_trans a.size b.size,
    fun c hc hn => (b.keep c (Nat.lt_of_lt_of_le hc a.size) fun ho => hn (a.own c hc ho)).trans (a.keep c hc hn), fun c hc ho => a.own c hc (b.own c (Nat.lt_of_lt_of_le hc a.size) ho), fun x => (b.fz x).trans (a.fz x)⟩
  rcases b.grow c o hc with h1 | h1 | h1
  · exact a.grow c o h1
  · rcases Nat.lt_or_ge c w.heap.size with h2 | h2
    · exact .inr (.inl (a.own c h2 h1))
    · exact .inr (.inr h2)
  · exact .inr (.inr (Nat.le_trans a.size h1))
/-- What was done in some blocks alone, seen from all. -/
theorem Post.embed (W : WF F ε m w) (hk : ∀ i B0, k.at i = some B0 → ∃ B, m (R i) = some B ∧ δ i = ε (R i)) (P : Post F δ k w F' δ' k' w') (hle : ε.le ε') (hc : Carry τ δ' ε')
    (hm : ∀ id B, m' id = some B → (m id = some B ∧ (∀ i B0, k.at i = some B0 → R i ≠ id)) ∨ (∃ i B0, k'.at i = some B0 ∧ B = B0.ren τ ∧ τ i = some id)) : PostF F ε m w F' ε' m' w' := by
  have own : ∀ b, Own δ k b → OwnF ε m b := by
    intro b ⟨i, B0, l, h1, h2, h3⟩
    obtain ⟨B, a1, a2⟩ := hk i B0 h1
    exact ⟨R i, B, l, a1, a2 ▸ h2, h3⟩
  -- a block of the frame is none of those
  have apart : ∀ id B l c, m id = some B → (∀ i B0, k.at i = some B0 → R i ≠ id) → ε id = some l → l.c = some c → ¬ Own δ k c := by
    intro id B l c h1 h2 h3 h4 ⟨i, B0, l', a1, a2, a3⟩
    obtain ⟨B', b1, b2⟩ := hk i B0 a1
    exact h2 i B0 a1 (W.inj (R i) id B' B l' l c b1 h1 (b2 ▸ a2) h3 a3 h4)
  have flt : ∀ id B l c, m id = some B → ε id = some l → l.c = some c → c < w.heap.size := by
    intro id B l c h1 h2 h3
    obtain ⟨l', e1, e2⟩ := W.blk id B h1
    rw [h2] at e1; cases e1
    exact e2.own_lt h3
  have envf : ∀ id B l, m id = some B → ε' id = some l → ε id = some l := by
    intro id B l h1 h2
    obtain ⟨l', e1, e2⟩ := W.blk id B h1
    rw [hle _ _ e1] at h2
    rw [e1]; exact h2
  have envk : ∀ i B0 id l, k'.at i = some B0 → τ i = some id → ε' id = some l → δ' i = some l := by
    intro i B0 id l h1 h2 h3
    obtain ⟨l', e1, e2⟩ := P.W.blk i B0 h1
    rw [hc _ _ _ h2 e1] at h3
    rw [e1]; exact h3
  refine ⟨P.le, fun b o hb => ?_, ⟨P.W.frz, fun id B hid => ?_, fun id B l c hid he hlc => ?_, fun id id' B B' l l' c h1 h2 e1 e2 c1 c2 => ?_⟩, P.fr.os, P.fr.tape, P.fr.output, P.fr.size, fun b hb hn => P.fr.keep b hb fun ho => hn (own b ho), fun b hb ho => ?_, P.fr.fz⟩
  · rcases P.grow.2 b o hb with h1 | h1 | h1
    · exact .inl h1
    · exact .inr (.inl (own b h1))
    · exact .inr (.inr h1)
  · rcases hm id B hid with ⟨h1, h2⟩ | ⟨i, B0, h1, rfl, h3⟩
    · obtain ⟨l, e1, e2⟩ := W.blk id B h1
      refine ⟨l, hle _ _ e1, (e2.keep fun c hcc => P.fr.keep c (flt id B l c h1 e1 hcc) (apart id B l c h1 h2 e1 hcc)).mono P.le hle⟩
    · obtain ⟨l, e1, e2⟩ := P.W.blk i B0 h1
      exact ⟨l, hc _ _ _ h3 e1, e2.ren hc⟩
  · rcases hm id B hid with ⟨h1, h2⟩ | ⟨i, B0, h1, rfl, h3⟩
    · have he0 := envf id B l h1 he
      cases hF : F' c with
      | none => rfl
      | some o =>
        rcases P.grow.2 c o hF with g | g | g
        · rw [W.sep id B l c h1 he0 hlc] at g; cases g
        · exact (apart id B l c h1 h2 he0 hlc g).elim
        · have := flt id B l c h1 he0 hlc; omega
    · exact P.W.sep i B0 l c h1 (envk i B0 id l h1 h3 he) hlc
  · have cross : ∀ id id' B B' l l', m id = some B → (∀ i B0, k.at i = some B0 → R i ≠ id) → (∃ i B0, k'.at i = some B0 ∧ B' = B0.ren τ ∧ τ i = some id') → ε' id = some l → ε' id' = some l' → l.c = some c → l'.c = some c → False := by
      intro id id' B B' l l' h1 h2 ⟨i, B0, a1, a2, a3⟩ e1 e2 c1 c2
      have he0 := envf id B l h1 e1
      exact apart id B l c h1 h2 he0 c1 (P.own c (flt id B l c h1 he0 c1) ⟨i, B0, l', a1, envk i B0 id' l' a1 a3 e2, c2⟩)
    rcases hm id B h1 with ⟨a1, a2⟩ | a
    · rcases hm id' B' h2 with ⟨b1, b2⟩ | b
      · exact W.inj id id' B B' l l' c a1 b1 (envf _ _ _ a1 e1) (envf _ _ _ b1 e2) c1 c2
      · exact (cross id id' B B' l l' a1 a2 b e1 e2 c1 c2).elim
    · rcases hm id' B' h2 with ⟨b1, b2⟩ | b
      · exact (cross id' id B' B l' l b1 b2 a e2 e1 c2 c1).elim
      · obtain ⟨i, B0, i1, i2, i3⟩ := a
        obtain ⟨j, B1, j1, j2, j3⟩ := b
        have := P.W.inj i j B0 B1 l l' c i1 j1 (envk _ _ _ _ i1 i3 e1) (envk _ _ _ _ j1 j3 e2) c1 c2
        subst this
        rw [i3] at j3; cases j3; rfl
  · obtain ⟨id, B, l, h1, h2, h3⟩ := ho
    rcases hm id B h1 with ⟨a1, a2⟩ | ⟨i, B0, a1, a2, a3⟩
    · exact ⟨id, B, l, a1, envf _ _ _ a1 h2, h3⟩
    · exact own b (P.own b hb ⟨i, B0, l, a1, envk _ _ _ _ a1 a3 h2, h3⟩)
end

/-! ### Names in a list -/
theorem pos_go : ∀ (l : List Nat) (x i j : Nat), pos.go x l i = some j → i ≤ j ∧ l[j - i]? = some x
  | [], x, i, j, h => by simp [pos.go] at h
  | y :: l, x, i, j, h => by
    simp only [pos.go] at h
    split at h
    · rename_i e; cases h; subst e; simp
    · obtain ⟨h1, h2⟩ := pos_go l x (i + 1) j h
      refine ⟨by omega, ?_⟩
      rw [show j - i = (j - (i + 1)) + 1 by omega]
      simpa using h2
theorem pos_some {l : List Nat} {x j : Nat} (h : pos l x = some j) : l[j]? = some x := by
  have := pos_go l x 0 j h
  simpa using this.2
theorem has_iff : ∀ (l : List Nat) (x : Nat), has l x = true ↔ x ∈ l
  | [], x => by simp [has]
  | y :: l, x => by
    simp only [has]
    by_cases h : x = y
    · subst h; simp
    · simp [h, has_iff l x]
theorem reach_spec (h : Heap) : ∀ (n : Nat) (todo seen : List Nat), seen.Nodup → (∀ x ∈ seen, x < h.length) → (reach h n todo seen).Nodup ∧ (∀ x ∈ reach h n todo seen, x < h.length) ∧ ∀ x ∈ seen, x ∈ reach h n todo seen
  | 0, todo, seen, hn, hs => ⟨hn, hs, fun _ h => h⟩
  | n + 1, [], seen, hn, hs => ⟨hn, hs, fun _ h => h⟩
  | n + 1, id :: todo, seen, hn, hs => by
    simp only [reach]
    split
    · exact reach_spec h n todo seen hn hs
    · rename_i hh
      split
      · rename_i b hb
        have hni : id ∉ seen := fun hm => hh ((has_iff _ _).2 hm)
        obtain ⟨a1, a2, a3⟩ := reach_spec h n (b.refs ++ todo) (seen ++ [id]) (by
          rw [List.nodup_append]
          exact ⟨hn, by simp, fun x hx y hy e => by simp at hy; subst hy; subst e; exact hni hx⟩) (fun x hx => by
          rcases List.mem_append.1 hx with h1 | h1
          · exact hs x h1
          · simp at h1; subst h1; exact Heap.at_lt hb)
        exact ⟨a1, a2, fun x hx => a3 x (List.mem_append.2 (.inl hx))⟩
      · exact reach_spec h n todo seen hn hs
theorem pack_at (h : Heap) (R : List Nat) (ρ : Nat → Option Nat) (i : Nat) : Heap.at (pack h R ρ) i = (R[i]?).bind fun id => (h.at id).map (Blk.ren ρ) := by
  unfold Heap.at pack
  rw [List.getElem?_map]
  cases R[i]? <;> rfl
theorem pack_length (h : Heap) (R : List Nat) (ρ : Nat → Option Nat) : (pack h R ρ).length = R.length := by simp [pack]
end Go.Ab
