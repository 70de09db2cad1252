/- One operation: slices of slices; stores. -/
import Derived.Test.YtgjconibaflaaaaGreatDoorAbOp6
namespace Go.Ab
open Go
set_option linter.unusedVariables false
set_option linter.unusedSimpArgs false
section
variable {P : Program} {F : Frz} {ε : Env} {w : World} {s s' : St} {a : Act} {o : Oper} {v : AV}

theorem run_sliceBound {u : Value} {k : IntKind} {n : Nat} {y : Nat} {code : BoundsCode} (hu : u = .int k n) (hy : n ≤ y) : (Instr.sliceBound u y code).run P w = .ok n w := by
  subst hu
  have : (0 : Int) ≤ (n : Int) ∧ (n : Int) ≤ (y : Int) := ⟨by omega, by omega⟩
  simp only [Instr.sliceBound, asIntOf, Sem.run_bind, Sem.run_pure, Result.andThen_ok, if_pos this]
  simp
theorem bound_rel {xo : Option Operand} {yo : Option AX} {d n : Nat} (hx : chkXo xo yo = true) (hb : bound s d yo = some n) (ht : TRel F ε s.tm a.tmps) :
    (xo = none ∧ n = d) ∨ ∃ x k, xo = some x ∧ a.eval x = .int k n := by
  match xo, yo, hx with
  | none, none, _ => simp [bound] at hb; exact .inl ⟨rfl, hb.symm⟩
  | some x, some y, hx =>
    simp only [bound] at hb
    split at hb
    · rename_i m hm
      split at hb
      · rename_i h0
        cases hb
        obtain ⟨k, hk⟩ := asInt_rel (ev_rel hx ht) hm
        exact .inr ⟨x, k, rfl, by rw [hk, Int.toNat_of_nonneg h0]⟩
      · cases hb
    · cases hb
theorem run_bounds {lo hi : Option Operand} {lo' hi' : Option AX} {isS : Bool} {len cap l h : Nat} (hlo : chkXo lo lo' = true) (hhi : chkXo hi hi' = true) (bl : bound s 0 lo' = some l) (bh : bound s len hi' = some h)
    (hle : l ≤ h) (hcap : h ≤ cap) (hlc : len ≤ cap) (ht : TRel F ε s.tm a.tmps) : (Instr.sliceBounds isS len cap (lo.map a.eval) (hi.map a.eval) none).run P w = .ok (l, h, cap) w := by
  unfold Instr.sliceBounds
  rcases bound_rel hlo bl ht with ⟨rfl, rfl⟩ | ⟨x, k, rfl, hx⟩ <;> rcases bound_rel hhi bh ht with ⟨rfl, rfl⟩ | ⟨x2, k2, rfl, hx2⟩
  · simp
  · simp [run_sliceBound (P := P) (w := w) hx2 hcap]
  · simp [run_sliceBound (P := P) (w := w) hx hle]
  · simp [run_sliceBound (P := P) (w := w) hx2 hcap, run_sliceBound (P := P) (w := w) hx hle]
theorem op_slice_str {t : TypeId} {x : Operand} {y : AX} {lo hi : Option Operand} {lo' hi' : Option AX} {l h : Nat} {tt : ByteArray} (ho : o.op = .slice t x lo hi none) (hx : chkX x y = true) (hlo : chkXo lo lo' = true) (hhi : chkXo hi hi' = true)
    (hu : P.underlying t = some .string) (he : s.ev y = .f (.str tt)) (bl : bound s 0 lo' = some l) (bh : bound s tt.size hi' = some h) (hle : l ≤ h) (hcap : h ≤ tt.size)
    (W : WRel F ε s.hp w) (ht : TRel F ε s.tm a.tmps) : OpOk P o a F ε s.hp w (.f (.str (tt.extract l h))) s.hp := by
  have r := ev_rel hx ht; rw [he] at r
  refine gives_pure (u := .string (tt.extract l h)) ?_ W (.f (.str _))
  simp only [execOp, ho, rel_str r]
  refine run_v ?_
  have hb := run_bounds (P := P) (w := w) (isS := false) hlo hhi bl bh hle hcap (Nat.le_refl _) ht
  simp [Instr.sliceAt, Instr.slice, run_underlying hu, hb]
theorem run_slice {t e : TypeId} {k : Nat} {x : Operand} {lo hi : Option Operand} {lo' hi' : Option AX} {l h len cap : Nat} {ad : Option Addr} (ho : o.op = .slice t x lo hi none) (hlo : chkXo lo lo' = true) (hhi : chkXo hi hi' = true)
    (hu : P.underlying t = some (.slice e)) (hk : sizeIs P e k = true) (he : a.eval x = .slice ad len cap) (bl : bound s 0 lo' = some l) (bh : bound s len hi' = some h) (hle : l ≤ h) (hcap : h ≤ cap) (hlc : len ≤ cap)
    (ht : TRel F ε s.tm a.tmps) : (execOp a.eval o).run P w = .ok (.value (.slice (if cap = l then ad else ad.map (·.add (l * k))) (h - l) (cap - l))) w := by
  simp only [execOp, ho, he]
  refine run_v ?_
  have hb := run_bounds (P := P) (w := w) (isS := true) hlo hhi bl bh hle hcap hlc ht
  simp [Instr.sliceAt, Instr.slice, run_underlying hu, hb, run_size hk]
theorem at2_drop {α : Type} (rs : List (List α)) (l n i j : Nat) : at2 ((rs.drop l).take n) i j = if i < n then at2 rs (l + i) j else none := by
  unfold at2
  rw [List.getElem?_take]
  split
  · rw [List.getElem?_drop]
  · rfl
theorem FRel_slice {k l h cap : Nat} {rs : List (List FV)} {ad : Option Addr} (hr : FRel F (.sl k rs) (.slice ad rs.length cap)) (hle : l ≤ h) (hh : h ≤ rs.length) :
    FRel F (.sl k ((rs.drop l).take (h - l))) (.slice (if cap = l then ad else ad.map (·.add (l * k))) (h - l) (cap - l)) := by
  by_cases h0 : h - l = 0
  · rw [h0, List.take_zero]
    exact .sl0 _ _ _
  · cases hr with
    | sl0 => simp at hh; omega
    | sl k rows b off cap cs e fr vs hF hk hc hv hcap =>
      rw [if_neg (by omega)]
      simp only [Option.map_some, add_eq]
      have hlen : ((rs.drop l).take (h - l)).length = h - l := by simp; omega
      have := FRel.sl (F := F) k ((rs.drop l).take (h - l)) b (off + l * k) (cap - l) cs e fr (fun i j => vs (l + i) j) hF
        (fun r hr => hk r (List.mem_of_mem_drop (List.mem_of_mem_take hr)))
        (fun i j x hx => by
          rw [at2_drop] at hx
          split at hx
          · have := hc _ _ _ hx
            rw [Nat.add_mul] at this
            rw [← this]; congr 1; omega
          · cases hx)
        (fun i j x hx => by
          rw [at2_drop] at hx
          split at hx
          · exact hv _ _ _ hx
          · cases hx) (by rw [hlen]; omega)
      rw [hlen] at this
      exact this
theorem op_slice_fr {t e : TypeId} {k : Nat} {x : Operand} {y : AX} {lo hi : Option Operand} {lo' hi' : Option AX} {l h : Nat} {rs : List (List FV)} (ho : o.op = .slice t x lo hi none) (hx : chkX x y = true) (hlo : chkXo lo lo' = true) (hhi : chkXo hi hi' = true)
    (hu : P.underlying t = some (.slice e)) (hk : sizeIs P e k = true) (he : s.ev y = .f (.sl k rs)) (bl : bound s 0 lo' = some l) (bh : bound s rs.length hi' = some h) (hle : l ≤ h) (hh : h ≤ rs.length)
    (W : WRel F ε s.hp w) (ht : TRel F ε s.tm a.tmps) : OpOk P o a F ε s.hp w (.f (.sl k ((rs.drop l).take (h - l)))) s.hp := by
  have r := ev_rel hx ht; rw [he] at r
  generalize hq : a.eval x = q at r
  cases r with
  | f r =>
    obtain ⟨ad, cap, rfl, hcap⟩ : ∃ ad cap, q = .slice ad rs.length cap ∧ rs.length ≤ cap := by
      cases r with
      | sl0 => exact ⟨_, _, rfl, Nat.zero_le _⟩
      | sl k rows b off cap cs e fr vs hF hk hc hv hcap => exact ⟨_, _, rfl, hcap⟩
    exact gives_pure (run_slice ho hlo hhi hu hk hq bl bh hle (by omega) hcap ht) W (.f (FRel_slice r hle hh))
theorem op_slice_sl0 {t e : TypeId} {k : Nat} {x : Operand} {y : AX} {lo hi : Option Operand} {lo' hi' : Option AX} (ho : o.op = .slice t x lo hi none) (hx : chkX x y = true) (hlo : chkXo lo lo' = true) (hhi : chkXo hi hi' = true)
    (hu : P.underlying t = some (.slice e)) (hk : sizeIs P e k = true) (he : s.ev y = .sl0 k) (bl : bound s 0 lo' = some 0) (bh : bound s 0 hi' = some 0)
    (W : WRel F ε s.hp w) (ht : TRel F ε s.tm a.tmps) : OpOk P o a F ε s.hp w (.sl0 k) s.hp := by
  have r := ev_rel hx ht; rw [he] at r
  generalize hq : a.eval x = q at r
  cases r with
  | sl0 k ad =>
    refine gives_pure (run_slice ho hlo hhi hu hk hq bl bh (Nat.le_refl _) (Nat.le_refl _) (Nat.le_refl _) ht) W ?_
    simpa using VRel.sl0 (F := F) (ε := ε) k ad
theorem SlAt_adv {l0 : Loc} {off l : Nat} {ad : Option Addr} {C : Nat} (hC : C = l0.C - off) (hlC : l ≤ C) (h : SlAt l0 off ad) : SlAt l0 (off + l) (if C = l then ad else ad.map (·.add (l * l0.k))) := by
  unfold SlAt at *
  cases hc : l0.c with
  | none => simpa [hc] using h
  | some c =>
    simp only [hc] at h ⊢
    by_cases e : C = l
    · left; omega
    · rw [if_neg e]
      rcases h with h | h
      · left; omega
      · right
        subst h
        simp only [Option.map_some, add_eq, Nat.add_mul]
        congr 2; omega
theorem loc_le {l : Loc} {B : Blk} (hB : BRel F ε l w B) (hm : B.width ≠ none) : l.n ≤ l.C ∧ B.count = l.n ∧ B.width = some l.k := by
  cases B with
  | frows k rs => obtain ⟨h1, h2, _, h4, _⟩ := hB; exact ⟨h4, by simpa [Blk.count, ofF] using h2, by rw [h1]; rfl⟩
  | rows k rs => obtain ⟨h1, h2, _, h4, _⟩ := hB; exact ⟨h4, by simpa [Blk.count] using h2, by rw [h1]; rfl⟩
  | map es => exact absurd rfl hm
  | iter t p => exact absurd rfl hm
theorem op_slice_vec {t e : TypeId} {k : Nat} {x : Operand} {y : AX} {lo hi : Option Operand} {lo' hi' : Option AX} {l h id : Nat} {b : Blk} (ho : o.op = .slice t x lo hi none) (hx : chkX x y = true) (hlo : chkXo lo lo' = true) (hhi : chkXo hi hi' = true)
    (hu : P.underlying t = some (.slice e)) (hk : sizeIs P e k = true) (he : s.ev y = .vec id) (hat : s.hp.at id = some b) (hbw : b.width = some k) (bl : bound s 0 lo' = some l) (bh : bound s b.count hi' = some h) (hle : l ≤ h) (hh : h ≤ b.count)
    (W : WRel F ε s.hp w) (ht : TRel F ε s.tm a.tmps) : OpOk P o a F ε s.hp w (.sub id l (h - l)) s.hp := by
  have r := ev_rel hx ht; rw [he] at r
  generalize hq : a.eval x = q at r
  cases r with
  | vec hε ha =>
    rename_i l0 ad
    obtain ⟨l', he', hB⟩ := W.blk id b hat
    rw [hε] at he'; cases he'
    obtain ⟨h1, h2, h3⟩ := loc_le hB (by rw [hbw]; simp)
    rw [hbw] at h3; cases h3
    rw [h2] at bh hh
    refine gives_pure (run_slice ho hlo hhi hu hk hq bl bh hle (by omega) h1 ht) W ?_
    have := SlAt_adv (off := 0) (l := l) (C := l0.C) (by omega) (by omega) ha
    rw [Nat.zero_add] at this
    exact .sub hε (by omega) this
theorem op_slice_sub {t e : TypeId} {k : Nat} {x : Operand} {y : AX} {lo hi : Option Operand} {lo' hi' : Option AX} {l h id off n : Nat} {b : Blk} (ho : o.op = .slice t x lo hi none) (hx : chkX x y = true) (hlo : chkXo lo lo' = true) (hhi : chkXo hi hi' = true)
    (hu : P.underlying t = some (.slice e)) (hk : sizeIs P e k = true) (he : s.ev y = .sub id off n) (hat : s.hp.at id = some b) (hbw : b.width = some k) (bl : bound s 0 lo' = some l) (bh : bound s n hi' = some h) (hle : l ≤ h) (hh : off + h ≤ b.count)
    (W : WRel F ε s.hp w) (ht : TRel F ε s.tm a.tmps) : OpOk P o a F ε s.hp w (.sub id (off + l) (h - l)) s.hp := by
  have r := ev_rel hx ht; rw [he] at r
  generalize hq : a.eval x = q at r
  cases r with
  | sub hε hn ha =>
    rename_i l0 ad
    obtain ⟨l', he', hB⟩ := W.blk id b hat
    rw [hε] at he'; cases he'
    obtain ⟨h1, h2, h3⟩ := loc_le hB (by rw [hbw]; simp)
    rw [hbw] at h3; cases h3
    rw [h2] at hh
    refine gives_pure (run_slice ho hlo hhi hu hk hq bl bh hle (by omega) (by omega) ht) W ?_
    have := SlAt_adv (off := off) (l := l) (C := l0.C - off) rfl (by omega) ha
    have e2 : l0.C - off - l = l0.C - (off + l) := by omega
    rw [e2]
    exact .sub hε (by omega) this
theorem op_slice0 {t e : TypeId} {k : Nat} {x m hi : Operand} {y m' hi' : AX} (ho : o.op = .slice t x none (some hi) (some m)) (hx : chkX x y = true) (hm : chkX m m' = true) (hhi : chkX hi hi' = true)
    (hu : P.underlying t = some (.slice e)) (hk : sizeIs P e k = true) (hm0 : asInt (s.ev m') = some 0) (hh0 : asInt (s.ev hi') = some 0) (he : (∃ q rs, s.ev y = .f (.sl q rs)) ∨ (∃ q, s.ev y = .sl0 q) ∨ (∃ id, s.ev y = .vec id) ∨ (∃ id o n, s.ev y = .sub id o n))
    (W : WRel F ε s.hp w) (ht : TRel F ε s.tm a.tmps) : OpOk P o a F ε s.hp w (.sl0 k) s.hp := by
  have r := ev_rel hx ht
  obtain ⟨ad, len, cap, hq⟩ : ∃ ad len cap, a.eval x = .slice ad len cap := by
    rcases he with ⟨q, rs, he⟩ | ⟨q, he⟩ | ⟨id, he⟩ | ⟨id, off, n, he⟩ <;> rw [he] at r <;> generalize a.eval x = z at r <;> cases r
    · rename_i r; cases r <;> exact ⟨_, _, _, rfl⟩
    · exact ⟨_, _, _, rfl⟩
    · exact ⟨_, _, _, rfl⟩
    · exact ⟨_, _, _, rfl⟩
  obtain ⟨k1, hk1⟩ := asInt_rel (ev_rel hm ht) hm0
  obtain ⟨k2, hk2⟩ := asInt_rel (ev_rel hhi ht) hh0
  refine gives_pure (u := .slice ad 0 0) ?_ W (.sl0 _ _)
  simp only [execOp, ho, hq]
  refine run_v ?_
  have b1 : ∀ (y : Nat) (code : BoundsCode), (Instr.sliceBound (a.eval m) y code).run P w = .ok 0 w := fun y code => run_sliceBound (n := 0) (k := k1) (by rw [hk1]; rfl) (Nat.zero_le _)
  have b2 : ∀ (y : Nat) (code : BoundsCode), (Instr.sliceBound (a.eval hi) y code).run P w = .ok 0 w := fun y code => run_sliceBound (n := 0) (k := k2) (by rw [hk2]; rfl) (Nat.zero_le _)
  simp [Instr.sliceAt, Instr.slice, Instr.sliceBounds, run_underlying hu, b1, b2, run_size hk]
end
end Go.Ab
