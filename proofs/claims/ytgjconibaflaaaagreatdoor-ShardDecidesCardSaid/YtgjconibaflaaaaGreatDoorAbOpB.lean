/- One operation: append. -/
import Derived.Test.YtgjconibaflaaaaGreatDoorAbOpA
import Derived.Deep.AppendSrc
import Derived.Room.Entries
namespace Go.Ab
open Go
set_option linter.unusedVariables false
set_option linter.unusedSimpArgs false
section
variable {P : Program} {F : Frz} {ε : Env} {w : World} {s s' : St} {a : Act} {o : Oper} {v : AV}

theorem brel_iff {l : Loc} {B : Blk} {k : Nat} (h : B.width = some k) : BRel F ε l w B ↔ CRel F ε l k (ofB B) w := by
  cases B with
  | frows q rs => simp only [Blk.width, Option.some.injEq] at h; subst h; exact Iff.rfl
  | rows q rs => simp only [Blk.width, Option.some.injEq] at h; subst h; exact Iff.rfl
  | map es => cases h
  | iter t p => cases h
theorem ofB_count {B : Blk} {k : Nat} (h : B.width = some k) : (ofB B).length = B.count := by
  cases B with
  | frows q rs => simp [ofB, ofF, Blk.count]
  | rows q rs => rfl
  | map es => cases h
  | iter t p => cases h
theorem drop_ofB (B : Blk) (n : Nat) : ofB (B.drop n) = (ofB B).drop n ∧ (B.drop n).width = B.width := by
  cases B <;> simp [Blk.drop, ofB, ofF, Blk.width, List.map_drop]
theorem take_ofB (B : Blk) (n : Nat) : ofB (B.take n) = (ofB B).take n ∧ (B.take n).width = B.width := by
  cases B <;> simp [Blk.take, ofB, ofF, Blk.width, List.map_take]
theorem join_ofB {b xs B' : Blk} (h : Blk.join b xs = some B') : ∃ k, b.width = some k ∧ xs.width = some k ∧ B'.width = some k ∧ ofB B' = ofB b ++ ofB xs := by
  cases b with
  | map es => cases xs <;> cases h
  | iter t p => cases xs <;> cases h
  | frows k rs =>
    cases xs with
    | map es => cases h
    | iter t p => cases h
    | frows l qs =>
      simp only [Blk.join] at h
      split at h
      · rename_i e; cases h; subst e; exact ⟨k, rfl, rfl, rfl, by simp [ofB, ofF]⟩
      · cases h
    | rows l qs =>
      simp only [Blk.join] at h
      split at h
      · rename_i e; cases h; subst e; exact ⟨k, rfl, rfl, rfl, by simp [ofB, ofF]⟩
      · cases h
  | rows k rs =>
    cases xs with
    | map es => cases h
    | iter t p => cases h
    | frows l qs =>
      simp only [Blk.join] at h
      split at h
      · rename_i e; cases h; subst e; exact ⟨k, rfl, rfl, rfl, by simp [ofB, ofF]⟩
      · cases h
    | rows l qs =>
      simp only [Blk.join] at h
      split at h
      · rename_i e; cases h; subst e; exact ⟨k, rfl, rfl, rfl, by simp [ofB, ofF]⟩
      · cases h
theorem ofF_splice (a b : List (List FV)) (o : Nat) : ofF (splice a o b) = splice (ofF a) o (ofF b) := by simp [ofF, splice, List.map_take, List.map_drop]
theorem over_ofB {b xs B' : Blk} {o : Nat} (h : Blk.over b o xs = some B') : ∃ k, b.width = some k ∧ xs.width = some k ∧ B'.width = some k ∧ ofB B' = splice (ofB b) o (ofB xs) ∧ o + (ofB xs).length ≤ (ofB b).length := by
  cases b with
  | map es => cases xs <;> cases h
  | iter t p => cases xs <;> cases h
  | frows k rs =>
    cases xs with
    | map es => cases h
    | iter t p => cases h
    | rows l qs => cases h
    | frows l qs =>
      simp only [Blk.over] at h
      split at h
      · rename_i e; cases h; obtain ⟨rfl, e⟩ := e; exact ⟨k, rfl, rfl, rfl, by simp [ofB, ofF_splice], by simpa [ofB, ofF] using e⟩
      · cases h
  | rows k rs =>
    cases xs with
    | map es => cases h
    | iter t p => cases h
    | frows l qs =>
      simp only [Blk.over] at h
      split at h
      · rename_i e; cases h; obtain ⟨rfl, e⟩ := e; exact ⟨k, rfl, rfl, rfl, by simp [ofB], by simpa [ofB, ofF] using e⟩
      · cases h
    | rows l qs =>
      simp only [Blk.over] at h
      split at h
      · rename_i e; cases h; obtain ⟨rfl, e⟩ := e; exact ⟨k, rfl, rfl, rfl, by simp [ofB], by simpa [ofB] using e⟩
      · cases h

/-- Rows are written, into those that are there or behind them. -/
theorem CRel.over {l : Loc} {k : Nat} {rs : List (List AV)} (hB : CRel F ε l k rs w) {c : Nat} (hc : l.c = some c) {p : Nat} {qs : List (List AV)} {us : List Value} (hq : Flat F ε k qs us) (hp : p + qs.length ≤ l.C) :
    ∃ ar e, w.heap[c]? = some (.cells ar e (0, 0)) ∧ l.base + p * k + us.length ≤ ar.size ∧ ∀ rs' : List (List AV), rs'.length ≤ l.C →
      (∀ i r, rs'[i]? = some r → if p ≤ i ∧ i < p + qs.length then qs[i - p]? = some r else rs[i]? = some r) →
      CRel F ε { l with n := rs'.length } k rs' (setB w c (.cells (overA ar (l.base + p * k) us) e (0, 0))) := by
  obtain ⟨hk, hn, hlen, hnC, hm⟩ := hB
  simp only [hc] at hm
  obtain ⟨ar, e, hh, hsz, hcell⟩ := hm
  have hle : p * k + us.length ≤ l.C * k := by
    rw [hq.1, ← Nat.add_mul]; exact Nat.mul_le_mul_right _ hp
  refine ⟨ar, e, hh, by omega, fun rs' hC hrs => ?_⟩
  refine ⟨hk, rfl, fun r hr => ?_, hC, ?_⟩
  · obtain ⟨i, hi⟩ := List.getElem?_of_mem hr
    have := hrs i r hi
    split at this
    · exact hq.2.1 r (List.mem_of_getElem? this)
    · exact hlen r (List.mem_of_getElem? this)
  · simp only [hc]
    refine ⟨_, e, by rw [setB_get, if_pos ⟨rfl, lt_of_some hh⟩], by rw [overA_size]; exact hsz, fun i j x hx => ?_⟩
    obtain ⟨r, hr, hj⟩ := at2_lt hx
    have hrl : r.length = k := by
      have := hrs i r hr
      split at this
      · exact hq.2.1 r (List.mem_of_getElem? this)
      · exact hlen r (List.mem_of_getElem? this)
    have hjk : j < k := by rw [← hrl]; exact (List.getElem?_eq_some_iff.1 hj).1
    have hthis := hrs i r hr
    rw [overA_get _ _ _ (by omega)]
    split at hthis
    · rename_i hcd
      have h1 : p * k ≤ i * k := Nat.mul_le_mul_right _ hcd.1
      have h2 : (i - p) * k + j < qs.length * k := idx_le (by omega) hjk
      have h3 : (i - p) * k = i * k - p * k := Nat.sub_mul ..
      rw [if_pos ⟨by omega, by rw [hq.1]; omega⟩]
      obtain ⟨u, hu1, hu2⟩ := hq.get (i := i - p) (j := j) (x := x) (by simp [at2, hthis, hj])
      exact ⟨u, by rw [← hu1]; congr 1; omega, hu2⟩
    · rename_i hcd
      rw [if_neg]
      · exact hcell i j x (by simp [at2, hthis, hj])
      · intro hbad
        rw [hq.1] at hbad
        rcases Nat.lt_or_ge i p with h1 | h1
        · have := idx_le (n := p) h1 hjk; omega
        · have h2 : p + qs.length ≤ i := by omega
          have := Nat.mul_le_mul_right k h2
          rw [Nat.add_mul] at this; omega
theorem CRel.shift {l : Loc} {k : Nat} {rs : List (List AV)} (h : CRel F ε l k rs w) {o : Nat} (ho : o ≤ l.n) : CRel F ε ⟨l.c, l.base + o * k, k, l.n - o, l.C - o⟩ k (rs.drop o) w := by
  obtain ⟨hk, hn, hlen, hnC, hm⟩ := h
  refine ⟨rfl, by simp [hn], fun r hr => hlen r (List.mem_of_mem_drop hr), by simp; omega, ?_⟩
  cases hc : l.c with
  | none => simp only [hc] at hm ⊢; omega
  | some c =>
    simp only [hc] at hm ⊢
    obtain ⟨ar, e, hh, hsz, hcell⟩ := hm
    refine ⟨ar, e, hh, ?_, fun i j x hx => ?_⟩
    · have : o * k ≤ l.C * k := Nat.mul_le_mul_right _ (by omega)
      rw [Nat.sub_mul]; omega
    · have hx' : at2 rs (o + i) j = some x := by simpa [at2, List.getElem?_drop] using hx
      obtain ⟨u, h1, h2⟩ := hcell _ _ x hx'
      exact ⟨u, by rw [← h1]; congr 1; rw [Nat.add_mul]; omega, h2⟩
theorem Flat.zero {k : Nat} {rs : List (List AV)} {us : List Value} (h : Flat F ε k rs us) (h0 : rs.length = 0) : us = [] := by
  have := h.1; rw [h0, Nat.zero_mul] at this; exact List.eq_nil_of_length_eq_zero this
theorem empty_blk {B : Blk} {k : Nat} (h : B.width = some k) (h0 : (ofB B).length = 0) : B = .frows k [] ∨ B = .rows k [] := by
  cases B with
  | frows q rs => simp only [Blk.width, Option.some.injEq] at h; subst h; simp only [ofB, ofF, List.length_map] at h0; left; rw [List.eq_nil_of_length_eq_zero h0]
  | rows q rs => simp only [Blk.width, Option.some.injEq] at h; subst h; simp only [ofB] at h0; right; rw [List.eq_nil_of_length_eq_zero h0]
  | map es => cases h
  | iter t p => cases h
theorem one_one' {u : Value} (h : one u = true) : u.oneCell' = true := by cases u <;> first | rfl | cases h

/-- In place, behind the last element. -/
theorem append_in (W : WRel F ε s.hp w) {id off n m k : Nat} {l : Loc} {b xs b' : Blk} {us : List Value} {ad : Option Addr} (hat : s.hp.at id = some b) (he : ε id = some l) (hs : SlAt l off ad) (hend : off + n = l.n) (hm : xs.count = m)
    (hj : Blk.join (b.drop off) xs = some b') (hk : b.width = some k) (hus : Flat F ε k (ofB xs) us) (h1 : ∀ u ∈ us, one u = true) (hC : n + m ≤ l.C - off) :
    ∃ w' F' ε', (match ad with | some ad => storeCells (ad.add (n * k)) us | none => pure ()).run P w = .ok () w' ∧ Post F ε s.hp w F' ε' (s.hp.set id none ++ [some b']) w' ∧ VRel F' ε' (.vec s.hp.length) (.slice ad (n + m) (l.C - off)) := by
  obtain ⟨l', e1, hr⟩ := W.blk id b hat
  rw [he] at e1; cases e1
  have hcr := (brel_iff hk).1 hr
  obtain ⟨k', j1, j2, j3, j4⟩ := join_ofB hj
  rw [(drop_ofB b off).2, hk] at j1; cases j1
  rw [(drop_ofB b off).1] at j4
  have hxl : (ofB xs).length = m := by rw [ofB_count j2, hm]
  have hbl : (ofB b).length = l.n := hcr.2.1
  have hnC := hcr.2.2.2.1
  have hlen' : (ofB b').length = n + m := by rw [j4]; simp; omega
  obtain ⟨WD, OD⟩ := W.drop id
  have hDlen : (s.hp.set id none).length = s.hp.length := by simp
  have triv : n + m = 0 → l.C - off = 0 → ∃ w' F' ε', (match ad with | some ad => storeCells (ad.add (n * k)) us | none => pure ()).run P w = .ok () w' ∧ Post F ε s.hp w F' ε' (s.hp.set id none ++ [some b']) w' ∧ VRel F' ε' (.vec s.hp.length) (.slice ad (n + m) (l.C - off)) := by
    intro h0 hC0
    have hus0 : us = [] := hus.zero (by omega)
    obtain ⟨δ, l2, d1, d2, d3, d4, d5, d6, d7, d8, d9⟩ := WD.nameV k b' (empty_blk j3 (by omega))
    refine ⟨w, F, δ, ?_, ⟨FGrow.refl _ _ _ _, fun i hi => d7 i (by rw [hDlen]; exact hi), by simp, d8, Fr.refl _ _ _, fun c hc ho => OD c hc (d9 c ho)⟩, ?_⟩
    · subst hus0; cases ad <;> simp [storeCells]
    · rw [h0, hC0]
      have := VRel.vec (F := F) (ε := δ) (id := s.hp.length) (l := l2) (a := ad) (by rw [← hDlen]; exact d2) (by unfold SlAt; rw [d3]; exact d5)
      rw [d4, d5] at this; exact this
  unfold SlAt at hs
  cases hc : l.c with
  | none =>
    rw [hc] at hs
    have h0 : l.C = 0 := hs
    exact triv (by omega) (by omega)
  | some c =>
    rw [hc] at hs
    rcases hs with hs | rfl
    · exact triv (by omega) (by omega)
    · rw [hcr.1]
      obtain ⟨ar, e, hh, hsz, hov⟩ := hcr.over hc (p := off + n) hus (by rw [hxl]; omega)
      let w1 := setB w c (.cells (overA ar (l.base + (off + n) * k) us) e (0, 0))
      have hsame : CRel F ε l k (ofB b) w1 := by
        have := hov (ofB b) (by have := hcr.2.2.2.1; omega) (fun i r hi => by
          have : i < (ofB b).length := (List.getElem?_eq_some_iff.1 hi).1
          rw [if_neg (by omega)]; exact hi)
        rw [hbl] at this; exact this
      obtain ⟨W1, F1, O1⟩ := W.upd (B' := b) hat he hc ((brel_iff hk).2 hsame)
      obtain ⟨W2, O2⟩ := W1.drop id
      rw [List.set_set] at W2 O2
      have hext : CRel F ε { l with n := l.n + m } k (ofB b ++ ofB xs) w1 := by
        have := hov (ofB b ++ ofB xs) (by simp; omega) (fun i r hi => by
          rw [List.getElem?_append] at hi
          split at hi
          · rename_i hlt; rw [if_neg (by omega)]; exact hi
          · rename_i hlt
            have h2 : i - (ofB b).length < (ofB xs).length := (List.getElem?_eq_some_iff.1 hi).1
            rw [if_pos ⟨by omega, by omega⟩, show i - (off + n) = i - (ofB b).length by omega]; exact hi)
        have hl2 : (ofB b ++ ofB xs).length = l.n + m := by simp; omega
        rw [hl2] at this; exact this
      have hsh := hext.shift (o := off) (by show off ≤ l.n + m; omega)
      have hdrop : (ofB b ++ ofB xs).drop off = ofB b' := by
        rw [j4, List.drop_append_of_le_length (by omega)]
      rw [hdrop] at hsh
      have hn2 : l.n + m - off = n + m := by omega
      obtain ⟨δ, d1, d2, d3, d4, d5⟩ := W2.name b' ⟨some c, l.base + off * k, k, n + m, l.C - off⟩ (by
        intro c' hc'
        cases hc'
        refine ⟨by simpa [setB] using W.blk_lt hat he hc, W.sep id b l c hat he hc, fun i B' l' h1 h2 h3 => ?_⟩
        have hi : i ≠ id ∧ s.hp.at i = some B' := by
          rw [Heap.at_set] at h1
          split at h1
          · cases h1
          · rename_i hne
            exact ⟨fun e => hne ⟨e, Heap.at_lt hat⟩, h1⟩
        exact hi.1 (W.inj i id B' b l' l c hi.2 hat h2 he h3 hc)) (fun δ hδ => by
        refine (brel_iff j3).2 ?_
        simp only [hc] at hsh
        rw [← hn2]
        exact hsh.mono (Frz.le_refl _) hδ)
      refine ⟨w1, F, δ, ?_, ⟨FGrow.refl _ _ _ _, fun i hi => d3 i (by simpa using hi), by simp, d4, F1, fun b2 hb2 ho => ?_⟩, ?_⟩
      · simp only []
        rw [add_eq, show l.base + off * k + n * k = l.base + (off + n) * k by rw [Nat.add_mul]; omega]
        have := run_storeCells (P := P) (base := l.base + (off + n) * k) (e := e) (l := us) (cs := ar) (w := w) 0 hh (by simpa using hsz) h1
        simpa using this
      · rcases d5 b2 ho with h2 | h2
        · exact O1 b2 hb2 (O2 b2 (by simpa [setB] using hb2) h2)
        · cases h2
          exact ⟨id, b, l, hat, he, hc⟩
      · have := VRel.vec (F := F) (ε := δ) (id := s.hp.length) (l := ⟨some c, l.base + off * k, k, n + m, l.C - off⟩) (a := some ⟨c, l.base + off * k, none⟩) (by rw [← hDlen]; exact d2) (by unfold SlAt; right; simp)
        exact this

theorem nextcap_ok {need old bytes : Nat} (h : old < need) (hn : need ≤ 2 ^ 36) (hb : bytes ≤ 1024) : Builtin.nextslicecap need old * bytes ≤ 281474976710656 := by
  have h1 := Room.nextslicecap_le' h
  calc Builtin.nextslicecap need old * bytes ≤ (2 * 2 ^ 36) * 1024 := Nat.mul_le_mul (by omega) hb
    _ ≤ _ := by decide
/-- What a second argument of append yields. -/
theorem src_rel (W : WRel F ε s.hp w) {x : AV} {u : Value} {B : Blk} {k : Nat} {tx : TypeId} (hx : VRel F ε x u) (hB : cont s.hp x = some B) (hk : B.width = some k) (hw : B.whole = true)
    (ht : (∃ e', P.underlying tx = some (.slice e')) ∨ P.underlying tx = some .string) : ∃ us, Flat F ε k (ofB B) us ∧ (∀ v ∈ us, one v = true) ∧ Src P k tx u B.count us w := by
  obtain ⟨us, h1, h2, h3, h4⟩ := cont_rel (P := P) W hx hB hk
  have hl : us.take (B.count * k) = us := by rw [List.take_of_length_le]; rw [h1.1, h3]; exact Nat.le_refl _
  refine ⟨us, h1, h1.one (whole_cells hw), ht, h2, ?_, ?_, by rw [h1.1, h3], fun v hv => one_one' (h1.one (whole_cells hw) v hv)⟩
  · rw [h4 _ (Nat.le_refl _) w rfl, hl]
  · rw [h4 _ (Nat.le_refl _) w.drew rfl, hl]
theorem run_append_in (t tx ty e : TypeId) (i : TypeInfo) (ht : P.underlying t = some (.slice e)) (hi : P.info? e = some i) (ad : Option Addr) (sLen sCap : Nat) (x : Value) (n : Nat) (news : List Value) (hs : Src P i.size tx x n news w)
    (hroom : sLen + n ≤ sCap) {w' : World} (hst : (match ad with | some ad => storeCells (ad.add (sLen * i.size)) news | none => pure ()).run P w = .ok () w') :
    (Builtin.append_ #[t, tx] ty #[.slice ad sLen sCap, x]).run P w = .ok (.slice ad (sLen + n) sCap) w' := by
  cases ad with
  | none =>
    simp only [Sem.run_pure, Result.ok.injEq, true_and] at hst
    subst hst
    rcases hs.kind with ⟨e', hk⟩ | hk <;> simp [Builtin.append_, run_underlying ht, run_underlying hk, sizeOf, typeInfo, hi, hs.len, hroom, hs.cells]
  | some ad =>
    simp only [] at hst
    rcases hs.kind with ⟨e', hk⟩ | hk <;> simp [Builtin.append_, run_underlying ht, run_underlying hk, sizeOf, typeInfo, hi, hs.len, hroom, hs.cells, hst]

/-- Into new memory. -/
theorem append_grow {h1 : Heap} (W : WRel F ε h1 w) {n m k cap : Nat} {rs : List (List AV)} {xs b' : Blk} {us os zs : List Value} {e : TypeId} (hm : xs.count = m) (hn : rs.length = n) (hj : ofB b' = rs ++ ofB xs) (hk : b'.width = some k) (hxk : xs.width = some k)
    (hos : Flat F ε k rs os) (hus : Flat F ε k (ofB xs) us) (hcap : n + m ≤ cap) (hzs : zs.length = (cap - (n + m)) * k) :
    ∃ F' ε', Post F ε h1 w F' ε' (h1 ++ [some b']) (w.alloc (.cells ((os ++ us).toArray ++ zs.toArray) e (0, 0))) ∧ VRel F' ε' (.vec h1.length) (.slice (some ⟨w.heap.size, 0, none⟩) (n + m) cap) := by
  have hfl := hos.append hus
  have hxl : (ofB xs).length = m := by rw [ofB_count hxk, hm]
  have hl : (rs ++ ofB xs).length = n + m := by simp [hn, hxl]
  have hfl1 := hfl.1
  rw [hl] at hfl1
  have := post_vec (s := ⟨[], h1⟩) (B := b') W (e := e) (k := k) (rs := rs ++ ofB xs) (ar := (os ++ us).toArray ++ zs.toArray) (C := cap) (fun h => (brel_iff hk).2 (by rw [hj]; exact h)) hfl.2.1 (by omega) (by
      rw [Array.size_append, List.size_toArray, List.size_toArray, hfl1, hzs, ← Nat.add_mul]
      exact Nat.mul_le_mul_right _ (by omega)) (fun p j x hx => by
      obtain ⟨u, u1, u2⟩ := hfl.get hx
      refine ⟨u, ?_, u2⟩
      have hlt := (List.getElem?_eq_some_iff.1 u1).1
      rw [Array.getElem?_append_left (by simpa using hlt)]
      simpa using u1)
  rw [hl] at this
  exact this
structure AppTy (P : Program) (t tx e : TypeId) (i : TypeInfo) (z : Value) (k : Nat) : Prop where
  ht : P.underlying t = some (.slice e)
  hi : P.info? e = some i
  hz : i.zero = some z
  hik : i.size = k
  hzk : z.cells.size = k
  hb : i.bytes ≤ 1024
  htx : (∃ e', P.underlying tx = some (.slice e')) ∨ P.underlying tx = some .string
theorem Post.drew {h w} (W : WRel F ε h w) : Post F ε h w F ε h w.drew := ⟨FGrow.refl _ _ _ _, fun _ _ => rfl, Nat.le_refl _, W.drew _, Fr.drew _ _ _ _, OwnSub.refl _ _ _⟩
theorem grown_le (w : World) (need old : Nat) (e : TypeId) : need ≤ grownCap w need old e := by
  unfold grownCap; simp only [Question.cut]; omega
theorem zeroCells_len (z : Array Value) (n : Nat) : ((Builtin.zeroCells z n).toList).length = n * z.size := by simp [Builtin.zeroCells]
theorem op_append_own {t tx e : TypeId} {i : TypeInfo} {z : Value} {k id off n : Nat} {ts : Array TypeId} {args : Array Operand} {x u : Operand} {y q : AX} {b xs b' : Blk} (ho : o.op = .call { callee := .builtin .append, args := args, argTypes := ts })
    (hts : ts = #[t, tx]) (has : args = #[x, u]) (hx : chkX x y = true) (hu : chkX u q = true) (T : AppTy P t tx e i z k) (hv : (s.ev y = .vec id ∧ off = 0) ∨ s.ev y = .sub id off n) (hat : s.hp.at id = some b) (hend : off + n = b.count)
    (hxs : cont s.hp (s.ev q) = some xs) (hw : xs.whole = true) (hwk : xs.width = some k) (hlim : n + xs.count ≤ 2 ^ 36) (hj : Blk.join (b.drop off) xs = some b')
    (W : WRel F ε s.hp w) (ht : TRel F ε s.tm a.tmps) : OpOk P o a F ε s.hp w (.vec s.hp.length) (s.hp.set id none ++ [some b']) := by
  obtain ⟨k', j1, j2, j3, j4⟩ := join_ofB hj
  rw [hwk] at j2; cases j2
  rw [(drop_ofB b off).2] at j1
  rw [(drop_ofB b off).1] at j4
  obtain ⟨us, u1, u2, u3⟩ := src_rel (P := P) W (ev_rel hu ht) hxs hwk hw T.htx
  have hvx : ∃ l ad, ε id = some l ∧ SlAt l off ad ∧ a.eval x = .slice ad n (l.C - off) ∧ off + n = l.n ∧ BRel F ε l w b := by
    have hr := ev_rel hx ht
    obtain ⟨l, el, hb⟩ := W.blk id b hat
    have hcnt : b.count = l.n := count_of hb (by rw [j1]; simp)
    rcases hv with ⟨h1, rfl⟩ | h1
    · rw [h1] at hr
      generalize a.eval x = u at hr ⊢
      cases hr with
      | vec h ha =>
        rw [el] at h; cases h
        exact ⟨l, _, el, ha, by rw [Nat.sub_zero, show n = l.n by omega], by omega, hb⟩
    · rw [h1] at hr
      generalize a.eval x = u at hr ⊢
      cases hr with
      | sub h hn ha =>
        rw [el] at h; cases h
        exact ⟨l, _, el, ha, rfl, by omega, hb⟩
  obtain ⟨l, ad, hel, hsl, hev, hln, hb⟩ := hvx
  have hcr := (brel_iff j1).1 hb
  have hrun := T
  subst hts has
  have hargs : ∀ {v' : Value} {w' : World}, (Builtin.append_ #[t, tx] o.type #[a.eval x, a.eval u]).run P w = .ok v' w' → (execOp a.eval o).run P w = .ok (.value v') w' := by
    intro v' w' h
    have := run_builtin (P := P) (w := w) (a := a) (b := .append) (args := #[x, u]) (ts := #[t, tx]) (u := v') (w' := w') ho (by simp only [builtin]; exact run_v (by simpa using h))
    exact this
  by_cases hC : n + xs.count ≤ l.C - off
  · obtain ⟨w', F', ε', r1, r2, r3⟩ := append_in (P := P) W hat hel hsl hln rfl hj j1 u1 u2 hC
    refine gives_value (hargs (v' := _) (w' := w') ?_) ⟨F', ε', r2, r3⟩
    rw [hev]
    exact run_append_in t tx _ e i T.ht T.hi ad n _ _ _ us (by rw [T.hik]; exact u3) hC (by rw [T.hik]; exact r1)
  · obtain ⟨WD, OD⟩ := W.drop id
    have hrl : ((ofB b).drop off).length = n := by rw [List.length_drop, hcr.2.1]; omega
    obtain ⟨os, o1, o2⟩ := view_rel (P := P) (C := l.C - off) hcr (off := off) (n := n) (by omega) hsl
    have htk : ((ofB b).drop off).take n = (ofB b).drop off := List.take_of_length_le (by omega)
    rw [htk] at o1
    have hg := run_append_grow_src w t tx o.type e i z T.ht T.hi T.hz ad n (l.C - off) os (by
      rw [T.hik, o2 n (Nat.le_refl _) w.drew rfl]
      congr 2
      exact List.take_of_length_le (by rw [o1.1, hrl]; exact Nat.le_refl _)) (a.eval u) xs.count us (by rw [T.hik]; exact u3) (by omega) (by omega) (nextcap_ok (by omega) hlim T.hb)
    obtain ⟨F', ε', p1, p2⟩ := append_grow (e := e) (h1 := s.hp.set id none) (w := w.drew) (WD.drew _) (b' := b') (xs := xs) (us := us) (os := os) (zs := (Builtin.zeroCells z.cells (grownCap w (n + xs.count) (l.C - off) e - (n + xs.count))).toList) (cap := grownCap w (n + xs.count) (l.C - off) e) rfl hrl j4 j3 hwk o1 u1
      (grown_le _ _ _ _) (by rw [zeroCells_len, T.hzk])
    refine gives_value (hargs (v' := _) (w' := _) (by rw [hev]; exact hg)) ⟨F', ε', ?_, ?_⟩
    · have hp : Post F ε s.hp w F ε (s.hp.set id none) w.drew := ⟨FGrow.refl _ _ _ _, fun _ _ => rfl, by simp, WD.drew _, Fr.drew _ _ _ _, OD⟩
      have := hp.trans p1
      simpa using this
    · simpa using p2

/-- Rows over rows. -/
theorem write_in (W : WRel F ε s.hp w) {id off n k : Nat} {l : Loc} {b xs b' : Blk} {us : List Value} {ad : Option Addr} (hat : s.hp.at id = some b) (he : ε id = some l) (hs : SlAt l off ad)
    (hov : Blk.over b (off + n) xs = some b') (hk : b.width = some k) (hus : Flat F ε k (ofB xs) us) (h1 : ∀ u ∈ us, one u = true) :
    ∃ w', (match ad with | some ad => storeCells (ad.add (n * k)) us | none => pure ()).run P w = .ok () w' ∧ Post F ε s.hp w F ε (s.hp.set id (some b')) w' := by
  obtain ⟨l', e1, hr⟩ := W.blk id b hat
  rw [he] at e1; cases e1
  have hcr := (brel_iff hk).1 hr
  obtain ⟨k', j1, j2, j3, j4, j5⟩ := over_ofB hov
  rw [hk] at j1; cases j1
  have hbl : (ofB b).length = l.n := hcr.2.1
  have hnC := hcr.2.2.2.1
  have triv : (ofB xs).length = 0 → ∃ w', (match ad with | some ad => storeCells (ad.add (n * k)) us | none => pure ()).run P w = .ok () w' ∧ Post F ε s.hp w F ε (s.hp.set id (some b')) w' := by
    intro h0
    have hus0 := hus.zero h0
    have hsame : ofB b' = ofB b := by rw [j4, List.eq_nil_of_length_eq_zero h0]; simp [splice]
    have hb' : BRel F ε l w b' := (brel_iff j3).2 (by rw [hsame]; exact hcr)
    refine ⟨w, by subst hus0; cases ad <;> simp [storeCells], ?_⟩
    cases hc : l.c with
    | none =>
      obtain ⟨W1, O1⟩ := W.updV (B' := b') hat he hc hb'
      exact ⟨FGrow.refl _ _ _ _, fun _ _ => rfl, by simp, W1, Fr.refl _ _ _, O1⟩
    | some c =>
      have hm := hcr.2.2.2.2
      simp only [hc] at hm
      obtain ⟨ar, e, hh, _⟩ := hm
      have hself := setB_self hh
      obtain ⟨W1, F1, O1⟩ := W.upd (B' := b') (o := .cells ar e (0, 0)) hat he hc (by rw [hself]; exact hb')
      rw [hself] at W1 F1
      exact ⟨FGrow.refl _ _ _ _, fun _ _ => rfl, by simp, W1, F1, O1⟩
  unfold SlAt at hs
  cases hc : l.c with
  | none =>
    rw [hc] at hs
    have h0 : l.C = 0 := hs
    exact triv (by omega)
  | some c =>
    rw [hc] at hs
    rcases hs with hs | rfl
    · exact triv (by omega)
    · rw [hcr.1]
      obtain ⟨ar, e, hh, hsz, hov2⟩ := hcr.over hc (p := off + n) hus (by omega)
      have hnew : CRel F ε l k (ofB b') (setB w c (.cells (overA ar (l.base + (off + n) * k) us) e (0, 0))) := by
        have hl : (ofB b').length = l.n := by rw [j4, splice_length _ _ _ j5, hbl]
        have := hov2 (ofB b') (by omega) (fun i r hi => by
          rw [j4, splice_get _ _ _ j5] at hi
          split at hi
          · rename_i hcd; rw [if_pos hcd]; exact hi
          · rename_i hcd; rw [if_neg hcd]; exact hi)
        rw [hl] at this; exact this
      obtain ⟨W1, F1, O1⟩ := W.upd (B' := b') hat he hc ((brel_iff j3).2 hnew)
      refine ⟨_, ?_, ⟨FGrow.refl _ _ _ _, fun _ _ => rfl, by simp, W1, F1, O1⟩⟩
      simp only []
      rw [add_eq, show l.base + off * k + n * k = l.base + (off + n) * k by rw [Nat.add_mul]; omega]
      have := run_storeCells (P := P) (base := l.base + (off + n) * k) (e := e) (l := us) (cs := ar) (w := w) 0 hh (by simpa using hsz) h1
      simpa using this
theorem run_append_op {t tx : TypeId} {ts : Array TypeId} {args : Array Operand} {x u : Operand} (ho : o.op = .call { callee := .builtin .append, args := args, argTypes := ts }) (hts : ts = #[t, tx]) (has : args = #[x, u]) {v' : Value} {w' : World}
    (h : (Builtin.append_ #[t, tx] o.type #[a.eval x, a.eval u]).run P w = .ok v' w') : (execOp a.eval o).run P w = .ok (.value v') w' := by
  subst hts has
  exact run_builtin (P := P) (w := w) (a := a) (b := .append) (args := #[x, u]) (ts := #[t, tx]) (u := v') (w' := w') ho (by simp only [builtin]; exact run_v (by simpa using h))
theorem op_append_over {t tx e : TypeId} {i : TypeInfo} {z : Value} {k id off n : Nat} {ts : Array TypeId} {args : Array Operand} {x u : Operand} {y q : AX} {b xs b' : Blk} (ho : o.op = .call { callee := .builtin .append, args := args, argTypes := ts })
    (hts : ts = #[t, tx]) (has : args = #[x, u]) (hx : chkX x y = true) (hu : chkX u q = true) (T : AppTy P t tx e i z k) (hv : s.ev y = .sub id off n) (hat : s.hp.at id = some b)
    (hxs : cont s.hp (s.ev q) = some xs) (hw : xs.whole = true) (hwk : xs.width = some k) (hj : Blk.over b (off + n) xs = some b')
    (W : WRel F ε s.hp w) (ht : TRel F ε s.tm a.tmps) : OpOk P o a F ε s.hp w (.sub id off (n + xs.count)) (s.hp.set id (some b')) := by
  obtain ⟨k', j1, j2, j3, j4, j5⟩ := over_ofB hj
  rw [hwk] at j2; cases j2
  obtain ⟨us, u1, u2, u3⟩ := src_rel (P := P) W (ev_rel hu ht) hxs hwk hw T.htx
  have hr := ev_rel hx ht
  obtain ⟨l, el, hb⟩ := W.blk id b hat
  have hcr := (brel_iff j1).1 hb
  have hbl : (ofB b).length = l.n := hcr.2.1
  have hnC := hcr.2.2.2.1
  have hxl := ofB_count hwk
  rw [hv] at hr
  generalize hev : a.eval x = ux at hr
  cases hr with
  | sub h hn ha =>
    rename_i l2 ad
    rw [el] at h; cases h
    obtain ⟨w', r1, r2⟩ := write_in (P := P) W hat el ha hj j1 u1 u2
    refine gives_value (run_append_op ho hts has (v' := .slice ad (n + xs.count) (l.C - off)) (w' := w') ?_) ⟨F, ε, r2, .sub el (by omega) ha⟩
    rw [hev]
    exact run_append_in t tx _ e i T.ht T.hi ad n _ _ _ us (by rw [T.hik]; exact u3) (by omega) (by rw [T.hik]; exact r1)
theorem op_append_sl0 {t tx e : TypeId} {i : TypeInfo} {z : Value} {k : Nat} {ts : Array TypeId} {args : Array Operand} {x u : Operand} {y q : AX} {xs b' : Blk} (ho : o.op = .call { callee := .builtin .append, args := args, argTypes := ts })
    (hts : ts = #[t, tx]) (has : args = #[x, u]) (hx : chkX x y = true) (hu : chkX u q = true) (T : AppTy P t tx e i z k) {k' : Nat} (hv : s.ev y = .sl0 k')
    (hxs : cont s.hp (s.ev q) = some xs) (hw : xs.whole = true) (hwk : xs.width = some k) (hlim : xs.count ≤ 2 ^ 36) (hj : Blk.join (.frows k []) xs = some b')
    (W : WRel F ε s.hp w) (ht : TRel F ε s.tm a.tmps) : OpOk P o a F ε s.hp w (.vec s.hp.length) (s.hp ++ [some b']) := by
  obtain ⟨k2, j1, j2, j3, j4⟩ := join_ofB hj
  rw [hwk] at j2; cases j2
  obtain ⟨us, u1, u2, u3⟩ := src_rel (P := P) W (ev_rel hu ht) hxs hwk hw T.htx
  have hxl := ofB_count hwk
  have hr := ev_rel hx ht
  rw [hv] at hr
  generalize hev : a.eval x = ux at hr
  cases hr with
  | sl0 _ ad =>
    by_cases hC : 0 + xs.count ≤ 0
    · have hus0 := u1.zero (by omega)
      have hb0 : (ofB b').length = 0 := by rw [j4, List.length_append, hxl]; show 0 + xs.count = 0; omega
      obtain ⟨δ, l2, d1, d2, d3, d4, d5, d6, d7, d8, d9⟩ := W.nameV k b' (empty_blk j3 hb0)
      refine gives_value (run_append_op ho hts has (v' := .slice ad (0 + xs.count) 0) (w' := w) ?_) ⟨F, δ, ⟨FGrow.refl _ _ _ _, d7, by simp, d8, Fr.refl _ _ _, fun c hc ho => d9 c ho⟩, ?_⟩
      · rw [hev]
        refine run_append_in t tx _ e i T.ht T.hi ad 0 0 _ _ us (by rw [T.hik]; exact u3) hC ?_
        subst hus0
        cases ad <;> simp [storeCells]
      · have := VRel.vec (F := F) (ε := δ) (id := s.hp.length) (l := l2) (a := ad) d2 (by unfold SlAt; rw [d3]; exact d5)
        rw [d4, d5] at this
        rw [show 0 + xs.count = 0 by omega]
        exact this
    · have hg := run_append_grow_src w t tx o.type e i z T.ht T.hi T.hz ad 0 0 [] (by
        rw [run_first0]) (a.eval u) xs.count us (by rw [T.hik]; exact u3) (by omega) (by omega) (nextcap_ok (by omega) (by omega) T.hb)
      obtain ⟨F', ε', p1, p2⟩ := append_grow (n := 0) (rs := []) (os := []) (e := e) (h1 := s.hp) (w := w.drew) (W.drew _) (b' := b') (xs := xs) (us := us) (zs := (Builtin.zeroCells z.cells (grownCap w (0 + xs.count) 0 e - (0 + xs.count))).toList) (cap := grownCap w (0 + xs.count) 0 e) rfl rfl (by rw [j4]; simp [ofB, ofF]) j3 hwk (Flat.nil k) u1
        (grown_le _ _ _ _) (by rw [zeroCells_len, T.hzk])
      refine gives_value (run_append_op ho hts has (v' := _) (w' := _) (by rw [hev]; exact hg)) ⟨F', ε', ?_, ?_⟩
      · have := (Post.drew W).trans p1
        simpa using this
      · simpa using p2
end
end Go.Ab
