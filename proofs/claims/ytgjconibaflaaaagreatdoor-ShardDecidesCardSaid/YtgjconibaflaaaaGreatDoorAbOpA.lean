/- One operation: append. -/
import Derived.Test.YtgjconibaflaaaaGreatDoorAbOp9
namespace Go.Ab
open Go
set_option linter.unusedVariables false
set_option linter.unusedSimpArgs false
section
variable {P : Program} {F : Frz} {ε : Env} {w : World} {s s' : St} {a : Act} {o : Oper} {v : AV}

/-- The cells of rows, one behind the other. -/
def Flat (F : Frz) (ε : Env) (k : Nat) (rs : List (List AV)) (us : List Value) : Prop :=
  us.length = rs.length * k ∧ (∀ r ∈ rs, r.length = k) ∧ ∀ i j x u, at2 rs i j = some x → us[i * k + j]? = some u → VRel F ε x u
theorem at2_some {α : Type} {k : Nat} {rs : List (List α)} (hk : ∀ r ∈ rs, r.length = k) {i j : Nat} (hi : i < rs.length) (hj : j < k) : ∃ x, at2 rs i j = some x := by
  have : (rs[i]).length = k := hk _ (List.getElem_mem hi)
  exact ⟨rs[i][j], by simp [at2, hi, this, hj]⟩
theorem Flat.get {k : Nat} {rs : List (List AV)} {us : List Value} (h : Flat F ε k rs us) {i j : Nat} {x : AV} (hx : at2 rs i j = some x) : ∃ u, us[i * k + j]? = some u ∧ VRel F ε x u := by
  obtain ⟨h1, h2, h3⟩ := h
  obtain ⟨r, hr, hj⟩ := at2_lt hx
  have hi : i < rs.length := (List.getElem?_eq_some_iff.1 hr).1
  have hjk : j < k := by have := (List.getElem?_eq_some_iff.1 hj).1; rw [← h2 r (List.mem_of_getElem? hr)]; exact this
  have hlt : i * k + j < us.length := by rw [h1]; exact idx_le hi hjk
  exact ⟨us[i * k + j], by simp [hlt], h3 i j x _ hx (by simp [hlt])⟩
theorem Flat.append {k : Nat} {rs qs : List (List AV)} {us ws : List Value} (h : Flat F ε k rs us) (g : Flat F ε k qs ws) : Flat F ε k (rs ++ qs) (us ++ ws) := by
  refine ⟨by simp [h.1, g.1, Nat.add_mul], fun r hr => ?_, fun i j x u hx hu => ?_⟩
  · rcases List.mem_append.1 hr with h1 | h1
    · exact h.2.1 r h1
    · exact g.2.1 r h1
  · obtain ⟨r, hr, hj⟩ := at2_lt hx
    rw [List.getElem?_append] at hr
    split at hr
    · rename_i hlt
      have hx' : at2 rs i j = some x := by simp [at2, hr, hj]
      obtain ⟨u', e1, e2⟩ := h.get hx'
      rw [List.getElem?_append_left (by exact (List.getElem?_eq_some_iff.1 e1).1), e1] at hu
      cases hu; exact e2
    · rename_i hlt
      have hx' : at2 qs (i - rs.length) j = some x := by simp [at2, hr, hj]
      obtain ⟨u', e1, e2⟩ := g.get hx'
      have hidx : i * k + j - us.length = (i - rs.length) * k + j := by
        rw [h.1, Nat.sub_mul]
        have := Nat.mul_le_mul_right k (show rs.length ≤ i by omega)
        omega
      rw [List.getElem?_append_right (by rw [h.1]; have := Nat.mul_le_mul_right k (show rs.length ≤ i by omega); omega), hidx, e1] at hu
      cases hu; exact e2
theorem Flat.mono {G : Frz} {δ : Env} (hFG : F.le G) (hε : ε.le δ) {k rs us} (h : Flat F ε k rs us) : Flat G δ k rs us := ⟨h.1, h.2.1, fun i j x u a b => (h.2.2 i j x u a b).mono hFG hε⟩
/-- All may be stored. -/
theorem Flat.one {k : Nat} {rs : List (List AV)} {us : List Value} (h : Flat F ε k rs us) (hw : rs.all (fun r => r.all AV.isCell) = true) : ∀ u ∈ us, one u = true := by
  intro u hu
  obtain ⟨q, hq⟩ := List.getElem?_of_mem hu
  have hlt : q < rs.length * k := by have := (List.getElem?_eq_some_iff.1 hq).1; rw [h.1] at this; exact this
  have hk : 0 < k := by rcases Nat.eq_zero_or_pos k with h0 | h0; · subst h0; simp at hlt
                        · exact h0
  have hi : q / k < rs.length := (Nat.div_lt_iff_lt_mul hk).2 hlt
  have hj : q % k < k := Nat.mod_lt _ hk
  obtain ⟨x, hx⟩ := at2_some h.2.1 hi hj
  have e : q / k * k + q % k = q := by rw [Nat.mul_comm]; exact Nat.div_add_mod q k
  have := h.2.2 _ _ x u hx (by rw [e]; exact hq)
  refine VRel_one this ?_
  obtain ⟨r, hr, hxj⟩ := at2_lt hx
  have := List.all_eq_true.1 hw _ (List.mem_of_getElem? hr)
  exact List.all_eq_true.1 this _ (List.mem_of_getElem? hxj)
theorem ofF_cells (rs : List (List FV)) : (ofF rs).all (fun r => r.all AV.isCell) = true := by
  simp [ofF, AV.isCell]
theorem whole_cells {B : Blk} (h : B.whole = true) : (ofB B).all (fun r => r.all AV.isCell) = true := by
  cases B with
  | frows k rs => exact ofF_cells rs
  | rows k rs => exact h
  | map es => rfl
  | iter t p => rfl
/-- What lies at an own block's place. -/
theorem CRel.flat {l : Loc} {k : Nat} {rs : List (List AV)} (h : CRel F ε l k rs w) {c : Nat} (hc : l.c = some c) (off n : Nat) (hle : off + n ≤ l.n) :
    ∃ us, Flat F ε k ((rs.drop off).take n) us ∧ ∀ (q : Nat) u, us[q]? = some u → w.cell? ⟨c, l.base + off * k + q, none⟩ = some u := by
  obtain ⟨h1, h2, h3, h4, h5⟩ := h
  simp only [hc] at h5
  obtain ⟨ar, e, hh, hsz, hcell⟩ := h5
  have hlen : ((rs.drop off).take n).length = n := by simp; omega
  have hmem : ∀ r ∈ (rs.drop off).take n, r.length = k := fun r hr => h3 r (List.mem_of_mem_drop (List.mem_of_mem_take hr))
  have key : ∀ q, q < n * k → ∃ u, ar[l.base + off * k + q]? = some u := by
    intro q hq
    have hk : 0 < k := by rcases Nat.eq_zero_or_pos k with h0 | h0; · subst h0; simp at hq
                          · exact h0
    have hi : q / k < n := (Nat.div_lt_iff_lt_mul hk).2 hq
    have hj : q % k < k := Nat.mod_lt _ hk
    obtain ⟨x, hx⟩ := at2_some (rs := rs) h3 (i := off + q / k) (j := q % k) (by omega) hj
    obtain ⟨u, hu, _⟩ := hcell _ _ x hx
    refine ⟨u, ?_⟩
    have e : q / k * k + q % k = q := by rw [Nat.mul_comm]; exact Nat.div_add_mod q k
    rw [← hu, Nat.add_mul]; congr 1; omega
  refine ⟨(List.range (n * k)).map fun q => (ar[l.base + off * k + q]?).getD undef, ⟨by simp [hlen], hmem, fun i j x u hx hu => ?_⟩, fun q u hu => ?_⟩
  · rw [at2_drop] at hx
    split at hx
    · obtain ⟨u', hu1, hu2⟩ := hcell _ _ x hx
      rw [List.getElem?_map] at hu
      cases hr : (List.range (n * k))[i * k + j]? with
      | none => rw [hr] at hu; cases hu
      | some q =>
        rw [hr] at hu
        have hq : q = i * k + j := by
          have := (List.getElem?_eq_some_iff.1 hr); obtain ⟨_, h⟩ := this; simpa using h.symm
        subst hq
        have hidx : l.base + off * k + (i * k + j) = l.base + (off + i) * k + j := by rw [Nat.add_mul]; omega
        simp only [Option.map_some, hidx, hu1, Option.getD_some, Option.some.injEq] at hu
        subst hu; exact hu2
    · cases hx
  · rw [List.getElem?_map] at hu
    cases hr : (List.range (n * k))[q]? with
    | none => rw [hr] at hu; cases hu
    | some q' =>
      rw [hr] at hu
      obtain ⟨hlt, hq⟩ := List.getElem?_eq_some_iff.1 hr
      simp at hq hlt
      subst hq
      obtain ⟨u', hu'⟩ := key q hlt
      simp only [Option.map_some, hu', Option.getD_some, Option.some.injEq] at hu
      subst hu
      rw [cell_of hh]; exact hu'

theorem run_first0 {k : Nat} {a : Option Addr} {n C : Nat} : (Builtin.firstCells k 0 (.slice a n C)).run P w = .ok #[] w := by
  cases a with
  | none => rfl
  | some a => simp [Builtin.firstCells, loadCells, loadCellsFrom]
theorem run_firstAt {k c base m n C : Nat} {us : List Value} (hm : m * k ≤ us.length) (h : ∀ (q : Nat) u, us[q]? = some u → w.cell? ⟨c, base + q, none⟩ = some u) {w' : World} (hw : w'.heap = w.heap) :
    (Builtin.firstCells k m (.slice (some ⟨c, base, none⟩) n C)).run P w' = .ok (us.take (m * k)).toArray w' := by
  have hcell : ∀ ad, w'.cell? ad = w.cell? ad := fun ad => by simp only [World.cell?, hw]
  replace h : ∀ (q : Nat) u, us[q]? = some u → w'.cell? ⟨c, base + q, none⟩ = some u := fun q u hq => by rw [hcell]; exact h q u hq
  have hl : (us.take (m * k)).length = m * k := by simp; omega
  have := run_loadCells (P := P) (w := w') (c := c) (base := base) (us := us.take (m * k)) (fun j v hj => h j v (by
    rw [List.getElem?_take] at hj
    split at hj
    · exact hj
    · cases hj))
  rw [hl] at this
  simpa [Builtin.firstCells] using this
theorem Flat.nil (k : Nat) : Flat F ε k [] [] := ⟨by simp, by simp, fun i j x u hx => by simp [at2] at hx⟩
/-- A view of an own block. -/
theorem view_rel {l : Loc} {k : Nat} {rs : List (List AV)} (h : CRel F ε l k rs w) {off n C : Nat} {ad : Option Addr} (hle : off + n ≤ l.n) (hs : SlAt l off ad) :
    ∃ us, Flat F ε k ((rs.drop off).take n) us ∧ ∀ m, m ≤ n → ∀ w', w'.heap = w.heap → (Builtin.firstCells k m (.slice ad n C)).run P w' = .ok (us.take (m * k)).toArray w' := by
  have h0 : n = 0 → ∃ us, Flat F ε k ((rs.drop off).take n) us ∧ ∀ m, m ≤ n → ∀ w', w'.heap = w.heap → (Builtin.firstCells k m (.slice ad n C)).run P w' = .ok (us.take (m * k)).toArray w' := by
    rintro rfl
    refine ⟨[], by simpa using Flat.nil k, fun m hm w' hw => ?_⟩
    have : m = 0 := by omega
    subst this
    rw [run_first0]; simp
  have hk := h.1
  have hnC := h.2.2.2.1
  unfold SlAt at hs
  cases hc : l.c with
  | none =>
    rw [hc] at hs
    exact h0 (by have : l.C = 0 := hs; omega)
  | some c =>
    rw [hc] at hs
    rcases hs with hs | rfl
    · exact h0 (by omega)
    · obtain ⟨us, h1, h2⟩ := h.flat hc off n hle
      refine ⟨us, h1, fun m hm w' hw => ?_⟩
      rw [hk]
      refine run_firstAt ?_ h2 hw
      rw [h1.1]
      have hrl : rs.length = l.n := h.2.1
      have : ((rs.drop off).take n).length = n := by simp; omega
      rw [this]
      exact Nat.mul_le_mul_right _ hm
theorem fr_flat {k : Nat} {rs : List (List FV)} {u : Value} (h : FRel F (.sl k rs) u) (W : WRel F ε s.hp w) :
    ∃ a C us, u = .slice a rs.length C ∧ Flat F ε k (ofF rs) us ∧ ∀ m, m ≤ rs.length → ∀ w', w'.heap = w.heap → (Builtin.firstCells k m u).run P w' = .ok (us.take (m * k)).toArray w' := by
  cases h with
  | sl0 _ ad cap =>
    refine ⟨ad, cap, [], rfl, Flat.nil k, fun m hm w' hw => ?_⟩
    have : m = 0 := by simpa using hm
    subst this; rw [run_first0]; simp
  | sl _ _ b off cap cs e fr vs hF hk hc hv hcap =>
    have hh := W.frz _ _ hF
    refine ⟨_, cap, (List.range (rs.length * k)).map fun q => vs (q / k) (q % k), rfl, ⟨by simp [ofF], ?_, ?_⟩, fun m hm w' hw => ?_⟩
    · intro r hr
      simp only [ofF, List.mem_map] at hr
      obtain ⟨f, hf, rfl⟩ := hr
      simpa using hk f hf
    · intro i j x u hx hu
      rw [at2_ofF] at hx
      cases hq : at2 rs i j with
      | none => rw [hq] at hx; cases hx
      | some y =>
        rw [hq] at hx; simp at hx; subst hx
        obtain ⟨r, hr, hj⟩ := at2_lt hq
        have hjk : j < k := by rw [← hk r (List.mem_of_getElem? hr)]; exact (List.getElem?_eq_some_iff.1 hj).1
        rw [List.getElem?_map] at hu
        cases hrr : (List.range (rs.length * k))[i * k + j]? with
        | none => rw [hrr] at hu; cases hu
        | some q =>
          rw [hrr] at hu
          obtain ⟨_, hq'⟩ := List.getElem?_eq_some_iff.1 hrr
          simp at hq'; subst hq'
          have hd : (i * k + j) / k = i := by
            rw [Nat.add_comm, Nat.add_mul_div_right _ _ (by omega), Nat.div_eq_of_lt hjk]; omega
          have hmod : (i * k + j) % k = j := by
            rw [Nat.add_comm, Nat.add_mul_mod_self_right, Nat.mod_eq_of_lt hjk]
          simp only [Option.map_some, hd, hmod, Option.some.injEq] at hu
          subst hu
          exact .f (hv i j y hq)
    · refine run_firstAt (by simp; exact Nat.mul_le_mul_right _ hm) ?_ hw
      intro q u hu
      rw [List.getElem?_map] at hu
      cases hrr : (List.range (rs.length * k))[q]? with
      | none => rw [hrr] at hu; cases hu
      | some q' =>
        rw [hrr] at hu
        obtain ⟨hlt, hq'⟩ := List.getElem?_eq_some_iff.1 hrr
        simp at hq' hlt; subst hq'
        simp only [Option.map_some, Option.some.injEq] at hu
        subst hu
        have hk0 : 0 < k := by rcases Nat.eq_zero_or_pos k with h0 | h0
                               · subst h0; simp at hlt
                               · exact h0
        have hi : q / k < rs.length := (Nat.div_lt_iff_lt_mul hk0).2 hlt
        obtain ⟨x, hx⟩ := at2_some hk hi (Nat.mod_lt q hk0)
        rw [cell_of hh, ← hc _ _ x hx]
        congr 1
        have : q / k * k + q % k = q := by rw [Nat.mul_comm]; exact Nat.div_add_mod q k
        omega
theorem ofF_take (rs : List (List FV)) (o n : Nat) : ofF ((rs.drop o).take n) = ((ofF rs).drop o).take n := by simp [ofF, List.map_take, List.map_drop]
/-- What a slice, or a string, holds: in both machines. -/
theorem cont_rel (W : WRel F ε s.hp w) {x : AV} {u : Value} {B : Blk} {k : Nat} (hx : VRel F ε x u) (hB : cont s.hp x = some B) (hk : B.width = some k) :
    ∃ us, Flat F ε k (ofB B) us ∧ (∀ w', (Builtin.lenOf u).run P w' = .ok B.count w') ∧ B.count = (ofB B).length ∧ ∀ n, n ≤ B.count → ∀ w', w'.heap = w.heap → (Builtin.firstCells k n u).run P w' = .ok (us.take (n * k)).toArray w' := by
  have own : ∀ {id : Nat} {l : Loc} {B' : Blk} (off n : Nat) (ad : Option Addr), s.hp.at id = some B' → ε id = some l → SlAt l off ad → off + n ≤ l.n → u = .slice ad n (l.C - off) →
      (∃ rs, B' = .frows k rs ∧ B = .frows k ((rs.drop off).take n)) ∨ (∃ rs, B' = .rows k rs ∧ B = .rows k ((rs.drop off).take n)) →
      ∃ us, Flat F ε k (ofB B) us ∧ (∀ w', (Builtin.lenOf u).run P w' = .ok B.count w') ∧ B.count = (ofB B).length ∧ ∀ n, n ≤ B.count → ∀ w', w'.heap = w.heap → (Builtin.firstCells k n u).run P w' = .ok (us.take (n * k)).toArray w' := by
    intro id l B' off n ad hat he hs hle hu hor
    obtain ⟨l', e1, hr⟩ := W.blk id B' hat
    rw [he] at e1; cases e1
    rcases hor with ⟨rs, rfl, rfl⟩ | ⟨rs, rfl, rfl⟩
    · have hlen : (ofF rs).length = l.n := hr.2.1
      have hl' : rs.length = l.n := by simpa [ofF] using hlen
      obtain ⟨us, h1, h2⟩ := view_rel (P := P) (C := l.C - off) hr hle hs
      subst hu
      have hc : ((rs.drop off).take n).length = n := by simp; omega
      refine ⟨us, by simpa [ofB, ofF_take] using h1, fun w' => by simp only [Builtin.lenOf, Blk.count, hc]; rfl, by simp [ofB, ofF, Blk.count], fun m hm => h2 m (by simp only [Blk.count, hc] at hm; exact hm)⟩
    · have hl' : rs.length = l.n := hr.2.1
      obtain ⟨us, h1, h2⟩ := view_rel (P := P) (C := l.C - off) hr hle hs
      subst hu
      have hc : ((rs.drop off).take n).length = n := by simp; omega
      refine ⟨us, by simpa [ofB] using h1, fun w' => by simp only [Builtin.lenOf, Blk.count, hc]; rfl, by simp [ofB, Blk.count], fun m hm => h2 m (by simp only [Blk.count, hc] at hm; exact hm)⟩
  cases hx with
  | f h =>
    rename_i v
    cases v with
    | sl q rs =>
      simp only [cont, Option.some.injEq] at hB; subst hB
      simp only [Blk.width, Option.some.injEq] at hk; subst hk
      obtain ⟨ad, C, us, rfl, h1, h2⟩ := fr_flat (P := P) h W
      exact ⟨us, h1, fun _ => rfl, by simp [ofB, ofF, Blk.count], h2⟩
    | str t =>
      simp only [cont, Option.some.injEq] at hB; subst hB
      simp only [Blk.width, Option.some.injEq] at hk; subst hk
      cases h
      have hlen : t.size = t.data.toList.length := by cases t; rfl
      refine ⟨t.data.toList.map fun b => .int .u8 b.toNat, ⟨by simp [ofB, ofF], ?_, ?_⟩, fun w' => by simp only [Builtin.lenOf, Blk.count, List.length_map, hlen]; rfl, by simp [ofB, ofF, Blk.count], fun n hn w' hw => ?_⟩
      · intro r hr
        simp only [ofB, ofF, List.mem_map, List.map_map] at hr
        obtain ⟨b, _, rfl⟩ := hr
        rfl
      · intro i j x u hx hu
        simp only [ofB, ofF, at2, List.map_map, List.getElem?_map] at hx
        cases hb : t.data.toList[i]? with
        | none => rw [hb] at hx; cases hx
        | some b =>
          rw [hb] at hx
          cases j with
          | succ j => simp at hx
          | zero =>
            simp at hx; subst hx
            simp only [Nat.mul_one, Nat.add_zero, List.getElem?_map, hb, Option.map_some, Option.some.injEq] at hu
            subst hu
            exact .f (.int _ _)
      · simp only [Builtin.firstCells, Nat.mul_one, Sem.run_pure]
        congr 1
        apply Array.ext'
        rw [ByteArray.data_extract]
        simp [List.map_take]
    | _ => cases hB
  | sl0 q ad =>
    simp only [cont, Option.some.injEq] at hB; subst hB
    simp only [Blk.width, Option.some.injEq] at hk; subst hk
    refine ⟨[], Flat.nil _, fun _ => rfl, rfl, fun m hm w' hw => ?_⟩
    have : m = 0 := by simpa [Blk.count] using hm
    subst this; rw [run_first0]; simp
  | vec he ha =>
    rename_i id l ad
    simp only [cont] at hB
    cases hat : s.hp.at id with
    | none => rw [hat] at hB; cases hB
    | some B' =>
      rw [hat] at hB
      obtain ⟨l', e1, hr⟩ := W.blk id B' hat
      rw [he] at e1; cases e1
      cases B' with
      | frows q rs =>
        simp only [Option.some.injEq] at hB; subst hB
        simp only [Blk.width, Option.some.injEq] at hk; subst hk
        have hl : rs.length = l.n := by simpa [ofF] using hr.2.1
        exact own 0 l.n ad hat he ha (by omega) (by simp) (.inl ⟨rs, rfl, by simp [← hl]⟩)
      | rows q rs =>
        simp only [Option.some.injEq] at hB; subst hB
        simp only [Blk.width, Option.some.injEq] at hk; subst hk
        have hl : rs.length = l.n := hr.2.1
        exact own 0 l.n ad hat he ha (by omega) (by simp) (.inr ⟨rs, rfl, by simp [← hl]⟩)
      | map es => cases hB
      | iter t p => cases hB
  | sub he hn ha =>
    rename_i id off n l ad
    simp only [cont] at hB
    cases hat : s.hp.at id with
    | none => rw [hat] at hB; cases hB
    | some B' =>
      rw [hat] at hB
      cases B' with
      | frows q rs =>
        simp only [Option.some.injEq] at hB; subst hB
        simp only [Blk.width, Option.some.injEq] at hk; subst hk
        exact own off n ad hat he ha hn rfl (.inl ⟨rs, rfl, rfl⟩)
      | rows q rs =>
        simp only [Option.some.injEq] at hB; subst hB
        simp only [Blk.width, Option.some.injEq] at hk; subst hk
        exact own off n ad hat he ha hn rfl (.inr ⟨rs, rfl, rfl⟩)
      | map es => cases hB
      | iter t p => cases hB
  | _ => cases hB
end
end Go.Ab
