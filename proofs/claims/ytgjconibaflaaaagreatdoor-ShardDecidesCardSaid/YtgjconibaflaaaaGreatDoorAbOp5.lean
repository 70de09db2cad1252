/- One operation: indices, lengths, slices, builtins that only reckon. -/
import Derived.Test.YtgjconibaflaaaaGreatDoorAbOp4
namespace Go.Ab
open Go
set_option linter.unusedVariables false
set_option linter.unusedSimpArgs false
section
variable {P : Program} {F : Frz} {ε : Env} {w : World} {s s' : St} {a : Act} {o : Oper} {v : AV}

theorem size_of {t : TypeId} {n : Nat} (h : sizeIs P t n = true) : ∃ i, P.info? t = some i ∧ i.size = n := by
  unfold sizeIs at h
  cases hi : P.info? t with
  | none => simp [hi] at h
  | some i => simp [hi] at h; exact ⟨i, rfl, h⟩
theorem run_size {t : TypeId} {n : Nat} (h : sizeIs P t n = true) : (sizeOf t).run P w = .ok n w := by
  obtain ⟨i, hi, rfl⟩ := size_of h
  exact run_sizeOf hi
theorem count_of {l : Loc} {B : Blk} (hB : BRel F ε l w B) (hm : B.width ≠ none) : B.count = l.n := by
  cases B with
  | frows k rs => obtain ⟨_, h2, _⟩ := hB; simpa [Blk.count, ofF] using h2
  | rows k rs => obtain ⟨_, h2, _⟩ := hB; simpa [Blk.count] using h2
  | map es => exact absurd rfl hm
  | iter t p => exact absurd rfl hm
theorem addr_add (c base n : Nat) : (⟨c, base, none⟩ : Addr).add n = ⟨c, base + n, none⟩ := add_eq c base n
/-- An element's address. -/
theorem op_iaddr_slice {t e : TypeId} {k : Nat} {x i : Operand} {y j : AX} {n : Int} (ho : o.op = .indexAddr t x i) (hx : chkX x y = true) (hi : chkX i j = true) (hu : P.underlying t = some (.slice e)) (hk : sizeIs P e k = true)
    (hn : asInt (s.ev j) = some n) (h0 : 0 ≤ n)
    (hv : (∃ rs, s.ev y = .f (.sl k rs) ∧ n.toNat < rs.length ∧ v = .fptr k rs n.toNat 0) ∨
      (∃ id b, s.ev y = .vec id ∧ s.hp.at id = some b ∧ n.toNat < b.count ∧ v = .ptr id n.toNat 0 ∧ b.width = some k) ∨
      (∃ id b off l, s.ev y = .sub id off l ∧ s.hp.at id = some b ∧ n.toNat < l ∧ v = .ptr id (off + n.toNat) 0 ∧ b.width = some k))
    (W : WRel F ε s.hp w) (ht : TRel F ε s.tm a.tmps) : OpOk P o a F ε s.hp w v s.hp := by
  have h := ev_rel hx ht
  obtain ⟨ik, hik⟩ := asInt_rel (ev_rel hi ht) hn
  have hnn : ((n.toNat : Nat) : Int) = n := Int.toNat_of_nonneg h0
  have hrun : ∀ (ad : Addr) (len cap : Nat), a.eval x = .slice (some ad) len cap → n.toNat < len → (execOp a.eval o).run P w = .ok (.value (.pointer (some (ad.add (n.toNat * k))))) w := by
    intro ad len cap hp hlt
    simp only [execOp, ho, hp, hik]
    refine run_v ?_
    have : 0 ≤ n ∧ n < (len : Int) := ⟨h0, by omega⟩
    simp [Instr.indexAt, asIntOf, run_underlying hu, this, run_size hk]
  rcases hv with ⟨rs, he, hlt, rfl⟩ | ⟨id, b, he, hat, hlt, rfl, hbk⟩ | ⟨id, b, off, l0, he, hat, hlt, rfl, hbk⟩
  · rw [he] at h
    generalize hq : a.eval x = q at h
    cases h with
    | f hf =>
      cases hf with
      | sl0 => simp at hlt
      | sl k rows bb off cap cs e1 fr vs hF hkk hc hv2 hcap =>
        refine gives_pure (hrun _ _ _ hq hlt) W ?_
        rw [add_eq]
        have := VRel.fptr (ε := ε) k rs bb off cs e1 fr n.toNat 0 hF hkk (fun i j x hx => ⟨vs i j, hc i j x hx, hv2 i j x hx⟩)
        simpa using this
  · rw [he] at h
    generalize hq : a.eval x = q at h
    cases h with
    | vec hε ha =>
      rename_i l ad
      obtain ⟨l', he', hB⟩ := W.blk id b hat
      rw [hε] at he'; cases he'
      have hm : b.width ≠ none := by rw [hbk]; simp
      have hcnt := count_of hB hm
      have hlk : l.k = k ∧ l.n ≤ l.C := by
        cases b with
        | frows q rs => obtain ⟨h1, _, _, h4, _⟩ := hB; exact ⟨by rw [h1]; simpa [Blk.width] using hbk, h4⟩
        | rows q rs => obtain ⟨h1, _, _, h4, _⟩ := hB; exact ⟨by rw [h1]; simpa [Blk.width] using hbk, h4⟩
        | map es => cases hbk
        | iter t p => cases hbk
      cases hlc : l.c with
      | none => simp [SlAt, hlc] at ha; omega
      | some c =>
        simp only [SlAt, hlc] at ha
        have had : ad = some ⟨c, l.base + 0 * l.k, none⟩ := ha.resolve_left (by omega)
        subst had
        refine gives_pure (hrun _ _ _ hq (by omega)) W ?_
        rw [add_eq]
        have := VRel.ptr (F := F) n.toNat 0 hε hlc
        rw [hlk.1] at this ⊢
        simpa using this
  · rw [he] at h
    generalize hq : a.eval x = q at h
    cases h with
    | sub hε hn1 ha =>
      rename_i l ad
      obtain ⟨l', he', hB⟩ := W.blk id b hat
      rw [hε] at he'; cases he'
      have hlk : l.k = k ∧ l.n ≤ l.C := by
        cases b with
        | frows q rs => obtain ⟨h1, _, _, h4, _⟩ := hB; exact ⟨by rw [h1]; simpa [Blk.width] using hbk, h4⟩
        | rows q rs => obtain ⟨h1, _, _, h4, _⟩ := hB; exact ⟨by rw [h1]; simpa [Blk.width] using hbk, h4⟩
        | map es => cases hbk
        | iter t p => cases hbk
      cases hlc : l.c with
      | none => simp [SlAt, hlc] at ha; omega
      | some c =>
        simp only [SlAt, hlc] at ha
        have had : ad = some ⟨c, l.base + off * l.k, none⟩ := ha.resolve_left (by omega)
        subst had
        refine gives_pure (hrun _ _ _ hq hlt) W ?_
        rw [add_eq]
        have := VRel.ptr (F := F) (off + n.toNat) 0 hε hlc
        rw [hlk.1] at this ⊢
        simpa [Nat.add_mul, Nat.add_assoc] using this
theorem op_iaddr_array {t e : TypeId} {k m : Nat} {x i : Operand} {y j : AX} {n : Int} (ho : o.op = .indexAddr t x i) (hx : chkX x y = true) (hi : chkX i j = true) (hu : P.underlying t = some (.array m e)) (hk : sizeIs P e k = true)
    (hn : asInt (s.ev j) = some n) (h0 : 0 ≤ n) (hm : n.toNat < m)
    (hv : (∃ id r q, s.ev y = .ptr id r q ∧ v = .ptr id r (q + n.toNat * k)) ∨ (∃ z rs r q, s.ev y = .fptr z rs r q ∧ v = .fptr z rs r (q + n.toNat * k)))
    (W : WRel F ε s.hp w) (ht : TRel F ε s.tm a.tmps) : OpOk P o a F ε s.hp w v s.hp := by
  have h := ev_rel hx ht
  obtain ⟨ik, hik⟩ := asInt_rel (ev_rel hi ht) hn
  have hnn : ((n.toNat : Nat) : Int) = n := Int.toNat_of_nonneg h0
  have hrun : ∀ ad : Addr, a.eval x = .pointer (some ad) → (execOp a.eval o).run P w = .ok (.value (.pointer (some (ad.add (n.toNat * k))))) w := by
    intro ad hp
    simp only [execOp, ho, hp, hik]
    refine run_v ?_
    have : 0 ≤ n ∧ n < (m : Int) := ⟨h0, by omega⟩
    simp [Instr.indexAt, asIntOf, run_underlying hu, Instr.sureAddr, this, run_size hk]
  rcases hv with ⟨id, r, q, he, rfl⟩ | ⟨z, rs, r, q, he, rfl⟩
  · rw [he] at h
    generalize hq : a.eval x = qq at h
    cases h with
    | ptr i j hε hc =>
      refine gives_pure (hrun _ hq) W ?_
      rw [add_eq]
      have := VRel.ptr (F := F) r (q + n.toNat * k) hε hc
      rwa [← Nat.add_assoc] at this
  · rw [he] at h
    generalize hq : a.eval x = qq at h
    cases h with
    | fptr k1 rs b off cs e1 fr i j hF hk1 hc =>
      refine gives_pure (hrun _ hq) W ?_
      rw [add_eq]
      have := VRel.fptr (ε := ε) z rs b off cs e1 fr r (q + n.toNat * k) hF hk1 hc
      rwa [← Nat.add_assoc] at this
theorem op_index_str {t : TypeId} {x i : Operand} {y j : AX} {n : Int} {tt : ByteArray} {b : UInt8} (ho : o.op = .index t x i) (hx : chkX x y = true) (hi : chkX i j = true) (hu : P.underlying t = some .string)
    (hn : asInt (s.ev j) = some n) (h0 : 0 ≤ n) (he : s.ev y = .f (.str tt)) (hb : tt.data.toList[n.toNat]? = some b)
    (W : WRel F ε s.hp w) (ht : TRel F ε s.tm a.tmps) : OpOk P o a F ε s.hp w (.f (.int .u8 b.toNat)) s.hp := by
  have h := ev_rel hx ht; rw [he] at h
  obtain ⟨ik, hik⟩ := asInt_rel (ev_rel hi ht) hn
  refine gives_pure (u := .int .u8 b.toNat) ?_ W (.f (.int _ _))
  simp only [execOp, ho, rel_str h, hik]
  refine run_v ?_
  have hb' : tt[n.toNat]? = some b := by
    have hlt : n.toNat < tt.size := by
      have := (List.getElem?_eq_some_iff.1 hb).1
      simpa using this
    rw [ByteArray.getElem?_lt' tt _ hlt]
    obtain ⟨h1, h2⟩ := List.getElem?_eq_some_iff.1 hb
    rw [← h2]
    show some (tt.data[n.toNat]'hlt) = some (tt.data.toList[n.toNat]'h1)
    simp
  simp only [Instr.index, asIntOf, Sem.run_bind, Sem.run_pure, Result.andThen_ok, run_underlying hu, if_pos h0, hb']
theorem op_index_array {t e : TypeId} {k m : Nat} {agg : Option Nat} {x i : Operand} {y j : AX} {n : Int} {cs : List AV} (ho : o.op = .index t x i) (hx : chkX x y = true) (hi : chkX i j = true) (hu : P.underlying t = some (.array m e))
    (hk : sizeIs P e k = true) (hagg : aggOk P e agg = true) (hak : agg.getD 1 = k) (hn : asInt (s.ev j) = some n) (h0 : 0 ≤ n) (he : s.ev y = .agg cs) (hle : n.toNat * k + k ≤ cs.length) (hm : n.toNat < m)
    (hv : uncells agg ((cs.drop (n.toNat * k)).take k) = some v)
    (W : WRel F ε s.hp w) (ht : TRel F ε s.tm a.tmps) : OpOk P o a F ε s.hp w v s.hp := by
  have h := ev_rel hx ht; rw [he] at h
  obtain ⟨us, hus, hr⟩ := rel_agg h
  obtain ⟨ik, hik⟩ := asInt_rel (ev_rel hi ht) hn
  subst hak
  obtain ⟨u, hrun, hrel⟩ := uncells_rel (P := P) (w := w) hagg hr hle hv
  refine gives_pure ?_ W hrel
  simp only [execOp, ho, hus, hik]
  refine run_v ?_
  have : 0 ≤ n ∧ n < (m : Int) := ⟨h0, by omega⟩
  simp [Instr.index, asIntOf, run_underlying hu, this, run_size hk, hrun]
end
end Go.Ab
