/- Which operation is which. -/
import Derived.Test.YtgjconibaflaaaaGreatDoorAbOpE
namespace Go.Ab
open Go
set_option linter.unusedVariables false
set_option linter.unusedSimpArgs false
section
variable {P : Program} {X : CallSem} {F : Frz} {ε : Env} {w : World} {s s' : St} {a : Act} {o : Oper} {v : AV}

/-- What an operation leaves alone. -/
theorem opE_tm {ao : AOp} (hr : opE X ao s = some (v, s')) : s'.tm = s.tm := by
  cases ao <;> simp only [opE] at hr <;> (repeat' (split at hr)) <;> first | (cases hr; rfl) | (cases hr)

theorem any_some {α : Type} {x : Option α} {p : α → Bool} (h : x.any p = true) : ∃ y, x = some y ∧ p y = true := by
  cases x with
  | none => cases h
  | some y => exact ⟨y, rfl, h⟩
theorem d_slice {k : Nat} {y : AX} {lo hi mx : Option AX} (hc : chkOp P o.op (.slice k y lo hi mx) = true) (hr : opE X (.slice k y lo hi mx) s = some (v, s')) (W : WRel F ε s.hp w) (ht : TRel F ε s.tm a.tmps) : OpOk P o a F ε s.hp w v s'.hp := by
  simp only [chkOp] at hc
  split at hc <;> try (cases hc; done)
  rename_i t x l h m ho
  simp only [Bool.and_eq_true] at hc
  obtain ⟨⟨⟨⟨hx, hl⟩, hh⟩, hm⟩, hty⟩ := hc
  simp only [opE] at hr
  by_cases hk0 : k = 0
  · rw [if_pos hk0] at hr
    split at hty
    · rename_i hu
      split at hr
      · rename_i t' e1 e2
        cases m with
        | some m => simp [chkXo] at hm
        | none =>
          split at hr
          · rename_i l' h' b1 b2
            split at hr
            · rename_i hle
              cases hr
              exact op_slice_str ho hx hl hh hu (by assumption) b1 b2 hle.1 hle.2 W ht
            · cases hr
          · cases hr
      · cases hr
    · simp [hk0] at hty
    · cases hty
  · rw [if_neg hk0] at hr
    split at hty
    · simp [hk0] at hty
    · rename_i e hu
      simp only [Bool.and_eq_true] at hty
      have hsz := hty.1
      split at hr
      · rename_i mx'
        cases m with
        | none => simp [chkXo] at hm
        | some m =>
          split at hr
          · rename_i n hh' e1 e2
            split at hr
            · rename_i hz
              obtain ⟨rfl, rfl⟩ := hz
              cases hi with
              | none => cases e2
              | some hi =>
                simp only [Option.map_some, Option.some.injEq] at e2
                cases l with
                | some l => simp [chkXo] at hl
                | none =>
                  cases h with
                  | none => simp [chkXo] at hh
                  | some h =>
                    have base : (∃ q rs, s.ev y = .f (.sl q rs)) ∨ (∃ q, s.ev y = .sl0 q) ∨ (∃ id, s.ev y = .vec id) ∨ (∃ id o n, s.ev y = .sub id o n) → OpOk P o a F ε s.hp w (.sl0 k) s.hp :=
                      fun hb => op_slice0 ho hx (by simpa [chkXo] using hm) (by simpa [chkXo] using hh) hu hsz e1 e2 hb W ht
                    split at hr
                    · rename_i q rs hy; cases hr; exact base (.inl ⟨_, _, hy⟩)
                    · rename_i q hy; cases hr; exact base (.inr (.inl ⟨_, hy⟩))
                    · rename_i q hy; cases hr; exact base (.inr (.inr (.inl ⟨_, hy⟩)))
                    · rename_i q o n hy; cases hr; exact base (.inr (.inr (.inr ⟨_, _, _, hy⟩)))
                    · cases hr
            · cases hr
          · cases hr
      · cases m with
        | some m => simp [chkXo] at hm
        | none =>
          split at hr
          · rename_i q rs hy
            split at hr
            · rename_i l' h' b1 b2
              split at hr
              · rename_i hcd
                obtain ⟨rfl, hle, hhi⟩ := hcd
                cases hr
                exact op_slice_fr ho hx hl hh hu hsz hy b1 b2 hle hhi W ht
              · cases hr
            · cases hr
          · rename_i q hy
            split at hr
            · rename_i l' h' b1 b2
              split at hr
              · rename_i hcd
                obtain ⟨rfl, rfl, rfl⟩ := hcd
                cases hr
                exact op_slice_sl0 ho hx hl hh hu hsz hy b1 b2 W ht
              · cases hr
            · cases hr
          · rename_i id hy
            split at hr
            · rename_i b hat
              split at hr
              · rename_i l' h' b1 b2
                split at hr
                · rename_i hcd
                  obtain ⟨hw, hle, hhi⟩ := hcd
                  cases hr
                  exact op_slice_vec ho hx hl hh hu hsz hy hat hw b1 b2 hle hhi W ht
                · cases hr
              · cases hr
            · cases hr
          · rename_i id off n hy
            split at hr
            · rename_i b hat
              split at hr
              · rename_i l' h' b1 b2
                split at hr
                · rename_i hcd
                  obtain ⟨hw, hle, hhi⟩ := hcd
                  cases hr
                  exact op_slice_sub ho hx hl hh hu hsz hy hat hw b1 b2 hle hhi W ht
                · cases hr
              · cases hr
            · cases hr
          · cases hr
    · cases hty
theorem d_iaddr {k : Nat} {alen : Option Nat} {y j : AX} (hc : chkOp P o.op (.iaddr k alen y j) = true) (hr : opE X (.iaddr k alen y j) s = some (v, s')) (W : WRel F ε s.hp w) (ht : TRel F ε s.tm a.tmps) : OpOk P o a F ε s.hp w v s'.hp := by
  simp only [chkOp] at hc
  split at hc <;> try (cases hc; done)
  rename_i t x i ho
  simp only [Bool.and_eq_true] at hc
  obtain ⟨⟨hx, hi⟩, hty⟩ := hc
  simp only [opE] at hr
  split at hr
  · cases hr
  · rename_i n hn
    split at hr
    · rename_i m
      split at hty
      · simp at hty
      · rename_i m' e hu
        simp only [Bool.and_eq_true, decide_eq_true_eq, Option.some.injEq] at hty
        obtain ⟨rfl, hsz⟩ := hty
        split at hr
        · rename_i hb
          split at hr
          · rename_i id r q hy
            cases hr
            exact op_iaddr_array ho hx hi hu hsz hn hb.1 hb.2 (.inl ⟨id, r, q, hy, rfl⟩) W ht
          · rename_i z rs r q hy
            cases hr
            exact op_iaddr_array ho hx hi hu hsz hn hb.1 hb.2 (.inr ⟨z, rs, r, q, hy, rfl⟩) W ht
          · cases hr
        · cases hr
      · cases hty
    · split at hty
      · rename_i e hu
        simp only [Bool.and_eq_true] at hty
        have hsz := hty.2
        split at hr
        · rename_i q rs hy
          split at hr
          · rename_i hb
            obtain ⟨rfl, h0, hlt⟩ := hb
            cases hr
            exact op_iaddr_slice ho hx hi hu hsz hn h0 (.inl ⟨rs, hy, hlt, rfl⟩) W ht
          · cases hr
        · rename_i id hy
          split at hr
          · rename_i b hat
            split at hr
            · rename_i hb
              cases hr
              exact op_iaddr_slice ho hx hi hu hsz hn hb.2.1 (.inr (.inl ⟨id, b, hy, hat, hb.2.2, rfl, hb.1⟩)) W ht
            · cases hr
          · cases hr
        · rename_i id off l hy
          split at hr
          · rename_i b hat
            split at hr
            · rename_i hb
              cases hr
              exact op_iaddr_slice ho hx hi hu hsz hn hb.2.1 (.inr (.inr ⟨id, b, off, l, hy, hat, hb.2.2, rfl, hb.1⟩)) W ht
            · cases hr
          · cases hr
        · cases hr
      · simp at hty
      · cases hty
theorem d_index {k : Nat} {alen agg : Option Nat} {y j : AX} (hc : chkOp P o.op (.index k alen agg y j) = true) (hr : opE X (.index k alen agg y j) s = some (v, s')) (W : WRel F ε s.hp w) (ht : TRel F ε s.tm a.tmps) : OpOk P o a F ε s.hp w v s'.hp := by
  simp only [chkOp] at hc
  split at hc <;> try (cases hc; done)
  rename_i t x i ho
  simp only [Bool.and_eq_true] at hc
  obtain ⟨⟨hx, hi⟩, hty⟩ := hc
  simp only [opE] at hr
  split at hr
  · cases hr
  · rename_i n hn
    split at hr
    · rename_i h0
      split at hr
      · rename_i cs hy
        split at hr
        · rename_i hle
          split at hr
          · rename_i v' hv
            cases hr
            split at hty
            · have : alen = none := by simpa using hty
              subst this; simp at hle
            · rename_i m e hu
              simp only [Bool.and_eq_true, decide_eq_true_eq, beq_iff_eq] at hty
              obtain ⟨⟨⟨rfl, hsz⟩, hagg⟩, hk⟩ := hty
              exact op_index_array ho hx hi hu hsz hagg hk hn h0 hy hle.1 hle.2 hv W ht
            · cases hty
          · cases hr
        · cases hr
      · rename_i t' hy
        split at hr
        · rename_i hal
          subst hal
          split at hr
          · rename_i b hb
            cases hr
            split at hty
            · rename_i hu; exact op_index_str ho hx hi hu hn h0 hy hb W ht
            · simp at hty
            · cases hty
          · cases hr
        · cases hr
      · cases hr
    · cases hr
theorem d_len {lk : LK} {y : AX} (hc : chkOp P o.op (.len lk y) = true) (hr : opE X (.len lk y) s = some (v, s')) (W : WRel F ε s.hp w) (ht : TRel F ε s.tm a.tmps) : OpOk P o a F ε s.hp w v s'.hp := by
  simp only [chkOp] at hc
  split at hc <;> try (cases hc; done)
  rename_i args ts ho
  simp only [Bool.and_eq_true, beq_iff_eq] at hc
  obtain ⟨⟨hx, hts⟩, hty⟩ := hc
  obtain ⟨x, hx1, hx2⟩ := chk1 hx
  have ha := args1 hx1
  have red : ∀ n : Nat, (Builtin.len_ ts o.type #[a.eval x]).run P w = .ok (.int .i64 n) w → OpOk P o a F ε s.hp w (.f (.int .i64 n)) s.hp := by
    intro n hrun
    refine op_len ho hx hts (fun x' hx' => ?_) W
    rw [ha] at hx'
    have : x' = x := by cases hx'; rfl
    rw [this]; exact hrun
  simp only [opE] at hr
  cases lk with
  | arr m =>
    simp only [Option.some.injEq] at hr
    cases hr
    split at hty <;> first | (cases hty; done) | skip
    all_goals first | (rename_i h1 _; cases h1; done) | skip
    rename_i m' n' e h1 hu
    cases h1
    simp only [decide_eq_true_eq] at hty
    subst hty
    obtain ⟨T, hT, hT2⟩ := size1 hts
    refine red _ ?_
    rw [hT2] at hu
    subst hT
    simp [Builtin.len_, run_underlying hu, goInt]
  | str =>
    have hu : P.underlying (ts.getD 0 0) = some .string := by
        split at hty <;> first | (cases hty; done) | assumption | (rename_i h1 _; cases h1)
    generalize hy : s.ev y = yv at hr
    cases yv with
    | f z =>
      cases z with
      | str t' =>
        cases hr
        exact red _ (len_str hx2 hts hu hy ht)
      | _ => exact absurd hr (by simp)
    | _ => exact absurd hr (by simp)
  | sl =>
    have hu : ∃ e, P.underlying (ts.getD 0 0) = some (.slice e) := by
        split at hty <;> first | (cases hty; done) | exact ⟨_, by assumption⟩ | (rename_i h1 _; cases h1)
    obtain ⟨e, hu⟩ := hu
    generalize hy : s.ev y = yv at hr
    cases yv with
    | f z =>
      cases z with
      | sl q rs =>
        cases hr
        exact red _ (len_slice hx2 hts hu W ht (.inl ⟨q, rs, hy, rfl⟩))
      | _ => exact absurd hr (by simp)
    | sl0 q =>
      cases hr
      exact red 0 (len_slice hx2 hts hu W ht (.inr (.inl ⟨q, hy, rfl⟩)))
    | vec id =>
      simp only at hr
      split at hr
      · rename_i q rs hat
        cases hr
        exact red _ (len_slice hx2 hts hu W ht (.inr (.inr (.inl ⟨id, _, hy, hat, rfl, by simp [Blk.width]⟩))))
      · rename_i q rs hat
        cases hr
        exact red _ (len_slice hx2 hts hu W ht (.inr (.inr (.inl ⟨id, _, hy, hat, rfl, by simp [Blk.width]⟩))))
      · cases hr
    | sub id o' n =>
      cases hr
      exact red _ (len_slice hx2 hts hu W ht (.inr (.inr (.inr ⟨id, o', hy⟩))))
    | _ => exact absurd hr (by simp)
  | mp =>
    have hu : ∃ k e, P.underlying (ts.getD 0 0) = some (.map k e) := by
        split at hty <;> first | (cases hty; done) | exact ⟨_, _, by assumption⟩ | (rename_i h1 _; cases h1)
    obtain ⟨q, e, hu⟩ := hu
    generalize hy : s.ev y = yv at hr
    cases yv with
    | f z =>
      cases z with
      | nilm =>
        cases hr
        exact red 0 (len_map hx2 hts hu W ht (.inl ⟨hy, rfl⟩))
      | _ => exact absurd hr (by simp)
    | mp id =>
      simp only at hr
      split at hr
      · rename_i es hat
        cases hr
        exact red _ (len_map hx2 hts hu W ht (.inr ⟨id, es, hy, hat, rfl⟩))
      · cases hr
    | _ => exact absurd hr (by simp)

theorem ts2 {ts : Array TypeId} (h : ts.size = 2) : ∃ t u, ts = #[t, u] ∧ ts.getD 0 0 = t ∧ ts.getD 1 0 = u := size2 h
theorem d_append {k bytes : Nat} {y x : AX} (hc : chkOp P o.op (.append k bytes y x) = true) (hr : opE X (.append k bytes y x) s = some (v, s')) (W : WRel F ε s.hp w) (ht : TRel F ε s.tm a.tmps) : OpOk P o a F ε s.hp w v s'.hp := by
  simp only [chkOp] at hc
  split at hc <;> try (cases hc; done)
  rename_i args ts ho
  simp only [Bool.and_eq_true, beq_iff_eq, decide_eq_true_eq] at hc
  obtain ⟨⟨⟨⟨⟨⟨hx, hts⟩, hel⟩, hby⟩, hk0⟩, hz⟩, htx⟩ := hc
  obtain ⟨x1, x2, e1, e2, e3⟩ := chk2 hx
  have has := args2 e1
  obtain ⟨t, tx, hts2, g0, g1⟩ := size2 hts
  rw [g0] at hel hby hz
  rw [g1] at htx
  split at hz <;> try (cases hz; done)
  rename_i e hu
  obtain ⟨i, hi, hz⟩ := any_some hz
  split at hz <;> try (cases hz; done)
  rename_i z hzv
  simp only [Bool.and_eq_true, decide_eq_true_eq] at hz
  simp only [elemOk, hu] at hel
  simp only [elemBytes, hu] at hby
  obtain ⟨i', hi', hby⟩ := any_some hby
  rw [hi] at hi'; cases hi'
  obtain ⟨i', hi', hsz⟩ := size_of hel
  rw [hi] at hi'; cases hi'
  have hby' : i.bytes = bytes := by simpa using hby
  have hsrc : (∃ e', P.underlying tx = some (.slice e')) ∨ P.underlying tx = some .string := by
    split at htx
    · rename_i e' h; exact .inl ⟨e', h⟩
    · rename_i h; exact .inr h
    · cases htx
  simp only [opE] at hr
  split at hr
  · cases hr
  · rename_i xs hxs
    split at hr
    · rename_i hcd
      obtain ⟨hb, hw, hwk⟩ := hcd
      have T : AppTy P t tx e i z k := ⟨hu, hi, hzv, hsz, hz.1, by omega, hsrc⟩
      split at hr
      · rename_i l hy
        split at hr
        · rename_i hl
          split at hr
          · rename_i b hj
            cases hr
            exact op_append_sl0 ho hts2 has e2 e3 T hy hxs hw hwk hl.2 hj W ht
          · cases hr
        · cases hr
      · rename_i id hy
        split at hr
        · rename_i b hat
          split at hr
          · rename_i hlim
            split at hr
            · rename_i b' hj
              cases hr
              have hd : b.drop 0 = b := by cases b <;> simp [Blk.drop]
              exact op_append_own (off := 0) (n := b.count) ho hts2 has e2 e3 T (.inl ⟨hy, rfl⟩) hat (by omega) hxs hw hwk hlim (by rw [hd]; exact hj) W ht
            · cases hr
          · cases hr
        · cases hr
      · rename_i id off n hy
        split at hr
        · rename_i b hat
          split at hr
          · rename_i hlim
            split at hr
            · rename_i hend
              split at hr
              · rename_i b' hj
                cases hr
                exact op_append_own ho hts2 has e2 e3 T (.inr hy) hat hend hxs hw hwk hlim hj W ht
              · cases hr
            · split at hr
              · rename_i b' hj
                cases hr
                exact op_append_over ho hts2 has e2 e3 T hy hat hxs hw hwk hj W ht
              · cases hr
          · cases hr
        · cases hr
      · cases hr
    · cases hr
theorem d_copy {k : Nat} {y x : AX} (hc : chkOp P o.op (.copy k y x) = true) (hr : opE X (.copy k y x) s = some (v, s')) (W : WRel F ε s.hp w) (ht : TRel F ε s.tm a.tmps) : OpOk P o a F ε s.hp w v s'.hp := by
  simp only [chkOp] at hc
  split at hc <;> try (cases hc; done)
  rename_i args ts ho
  simp only [Bool.and_eq_true, beq_iff_eq, decide_eq_true_eq] at hc
  obtain ⟨⟨hx, hts⟩, hty⟩ := hc
  obtain ⟨x1, x2, e1, e2, e3⟩ := chk2 hx
  have has := args2 e1
  obtain ⟨t, tx, hts2, g0, g1⟩ := size2 hts
  rw [g0] at hty
  split at hty <;> try (cases hty; done)
  rename_i e hu
  obtain ⟨i, hi, hik⟩ := size_of hty
  simp only [opE] at hr
  split at hr
  · rename_i xs id hxs hy
    split at hr
    · rename_i b hat
      split at hr
      · rename_i hcd
        split at hr
        · rename_i b' hj
          cases hr
          exact op_copy (off := 0) (n := b.count) ho hts2 has e2 e3 hu hi hik (.inl ⟨hy, rfl, rfl⟩) hat (by omega) hxs hcd.1 hcd.2 rfl hj W ht
        · cases hr
      · cases hr
    · cases hr
  · rename_i xs id off n hxs hy
    split at hr
    · rename_i b hat
      split at hr
      · rename_i hcd
        split at hr
        · rename_i b' hj
          cases hr
          exact op_copy ho hts2 has e2 e3 hu hi hik (.inr hy) hat hcd.2.2 hxs hcd.1 hcd.2.1 rfl hj W ht
        · cases hr
      · cases hr
    · cases hr
  · cases hr
theorem d_map {ao : AOp} (hm : (∃ str z m key ok, ao = .lookup str z m key ok) ∨ (∃ str m key x, ao = .mapset str m key x) ∨ (∃ z x, ao = .clear z x)) (hc : chkOp P o.op ao = true) (hr : opE X ao s = some (v, s')) (W : WRel F ε s.hp w) (ht : TRel F ε s.tm a.tmps) : OpOk P o a F ε s.hp w v s'.hp := by
  rcases hm with ⟨str, z, m, key, ok, rfl⟩ | ⟨str, m, key, x, rfl⟩ | ⟨z, x, rfl⟩
  · simp only [chkOp] at hc
    split at hc <;> try (cases hc; done)
    rename_i t x i ok' ho
    simp only [Bool.and_eq_true, beq_iff_eq] at hc
    obtain ⟨⟨⟨⟨h1, h2⟩, rfl⟩, hk⟩, hty⟩ := hc
    split at hty <;> try (cases hty; done)
    rename_i K e hu
    obtain ⟨i', hi, hty⟩ := any_some hty
    split at hty <;> try (cases hty; done)
    rename_i zv hz
    simp only [opE] at hr
    split at hr
    · cases hr
    · rename_i ky hky
      split at hr
      · rename_i hy
        cases hr
        exact op_lookup ho h1 h2 hk hu hi hz hty hky (.inl ⟨hy, rfl⟩) W ht
      · rename_i id hy
        split at hr
        · rename_i es hat
          split at hr
          · rename_i hks
            cases hr
            exact op_lookup ho h1 h2 hk hu hi hz hty hky (.inr ⟨id, es, hy, hat, hks, rfl⟩) W ht
          · cases hr
        · cases hr
      · cases hr
  · have hcc : ∃ t m' k' v', (o.op = .mapUpdate t m' k' v' ∨ o.op = .insert t m' k' v') ∧ keyOk P t str = true ∧ chkX m' m = true ∧ chkX k' key = true ∧ chkX v' x = true := by
      simp only [chkOp] at hc
      split at hc <;> try (cases hc; done)
      all_goals
        rename_i t m' k' v' ho
        simp only [Bool.and_eq_true] at hc
        refine ⟨t, m', k', v', ?_, hc.1.1.1, hc.1.1.2, hc.1.2, hc.2⟩
        first | exact .inl ho | exact .inr ho
    obtain ⟨t, m', k', v', ho, h1, h2, h3, h4⟩ := hcc
    simp only [opE] at hr
    split at hr
    · rename_i id ky hy hky
      split at hr
      · rename_i es hat
        split at hr
        · rename_i hks
          cases hr
          exact op_mapset ho h2 h3 h4 h1 hky hy hat hks W ht
        · cases hr
      · cases hr
    · cases hr
  · simp only [chkOp] at hc
    split at hc <;> try (cases hc; done)
    rename_i args ts ho
    simp only [Bool.and_eq_true, beq_iff_eq] at hc
    obtain ⟨⟨hx, hts⟩, hty⟩ := hc
    obtain ⟨x1, e1, e2⟩ := chk1 hx
    obtain ⟨t, hts2, g0⟩ := size1 hts
    rw [g0] at hty
    simp only [opE] at hr
    split at hr
    · rename_i z0 zs id off n hy
      split at hty <;> try (cases hty; done)
      · rename_i e hu
        simp only [Bool.and_eq_true, decide_eq_true_eq] at hty
        split at hr
        · rename_i b hat
          split at hr
          · rename_i b' hj
            cases hr
            exact op_clear_sub ho (args1 e1) hts2 e2 hu hty.1.1 hty.2 hy hat hj W ht
          · cases hr
        · cases hr
    · cases hr
/-- One operation. -/
theorem op_sound (hX : Sound P X) {ao : AOp} (hc : chkOp P o.op ao = true) (hr : opE X ao s = some (v, s')) (W : WRel F ε s.hp w) (ht : TRel F ε s.tm a.tmps) : OpOk P o a F ε s.hp w v s'.hp := by
  cases ao with
  | mv y =>
    simp only [opE] at hr; cases hr
    simp only [chkOp] at hc
    split at hc <;> try (cases hc; done)
    · rename_i x ho; exact op_mv (.inl ho) hc W ht
    · rename_i x ho; exact op_mv (.inr ho) hc W ht
  | pick c y z =>
    simp only [chkOp] at hc
    split at hc <;> try (cases hc; done)
    rename_i ho
    simp only [Bool.and_eq_true] at hc
    simp only [opE] at hr
    split at hr
    · rename_i t hy; cases hr; exact op_pick ho hc.1.1 hc.1.2 hc.2 hy W ht
    · cases hr
  | new k z =>
    simp only [chkOp] at hc
    split at hc <;> try (cases hc; done)
    rename_i ho
    simp only [opE] at hr
    split at hr
    · rename_i hk; cases hr; exact op_new ho hc hk W
    · cases hr
  | box y =>
    simp only [chkOp] at hc
    split at hc <;> try (cases hc; done)
    rename_i ho
    simp only [opE] at hr
    split at hr
    · rename_i cs hs; cases hr; exact op_box ho hc hs W ht
    · cases hr
  | build z qs =>
    simp only [chkOp] at hc
    split at hc <;> try (cases hc; done)
    rename_i t ps ho
    simp only [Bool.and_eq_true] at hc
    obtain ⟨hz, hty⟩ := hc
    simp only [opE] at hr
    split at hr
    · rename_i cs hf
      cases hr
      refine op_build ho hz ?_ hf W ht
      split at hty
      · rename_i fs hu; simp only [Bool.and_eq_true] at hty; exact .inl ⟨fs, hu, hty.1, hty.2⟩
      · rename_i n e hu
        split at hty
        · rename_i j hj; exact .inr ⟨n, e, j, hu, hj, hty⟩
        · cases hty
      · cases hty
    · cases hr
  | bslice k xs =>
    simp only [chkOp] at hc
    split at hc <;> try (cases hc; done)
    rename_i t len ps ho
    simp only [Bool.and_eq_true, decide_eq_true_eq, beq_iff_eq] at hc
    obtain ⟨⟨⟨⟨⟨he, hz⟩, hle⟩, h0⟩, hl⟩, hrow⟩ := hc
    split at hz <;> try (cases hz; done)
    rename_i e hu
    obtain ⟨i, hi, hz⟩ := any_some hz
    split at hz <;> try (cases hz; done)
    rename_i zv hzv
    simp only [elemOk, hu] at he
    obtain ⟨i', hi', hsz⟩ := size_of he
    rw [hi] at hi'; cases hi'
    simp only [opE] at hr
    split at hr
    · cases hr
      have hl0 : len = 0 := hl.symm
      subst hl0
      have hps : ps = #[] := by
        cases hp : ps.toList with
        | nil => exact Array.toList_eq_nil_iff.1 hp
        | cons x l => rw [hp] at hrow; simp [chkRow] at hrow
      exact op_bslice0 ho hu hi hps W
    · split at hr
      · rename_i rs hs; cases hr; exact op_bslice ho hu hi hzv (by simpa using hz) hsz hle h0 hl hrow hs W ht
      · cases hr
  | load agg y =>
    simp only [chkOp] at hc
    split at hc <;> try (cases hc; done)
    rename_i ho
    simp only [Bool.and_eq_true] at hc
    simp only [opE] at hr
    split at hr
    · rename_i cs hcs
      split at hr
      · rename_i v' hv; cases hr; exact op_load ho hc.1 hc.2 hcs hv W ht
      · cases hr
    · cases hr
  | store n y z =>
    simp only [chkOp] at hc
    split at hc <;> try (cases hc; done)
    rename_i ho
    simp only [Bool.and_eq_true] at hc
    simp only [opE] at hr
    split at hr
    · rename_i cs hcs
      split at hr
      · rename_i hn
        split at hr
        · rename_i h' hset; cases hr; exact op_store ho hc.1.1 hc.1.2 hc.2 hcs hn hset W ht
        · cases hr
      · cases hr
    · cases hr
  | nilchk y =>
    simp only [chkOp] at hc
    split at hc <;> try (cases hc; done)
    rename_i ho
    simp only [opE] at hr
    split at hr
    · rename_i i j k hy; cases hr; rw [← hy]; exact op_nilchk ho hc (.inl ⟨_, _, _, hy⟩) W ht
    · rename_i i j k l hy; cases hr; rw [← hy]; exact op_nilchk ho hc (.inr ⟨_, _, _, _, hy⟩) W ht
    · cases hr
  | bin op e x y =>
    simp only [chkOp] at hc
    split at hc <;> try (cases hc; done)
    rename_i ho
    simp only [Bool.and_eq_true, decide_eq_true_eq] at hc
    obtain ⟨⟨⟨rfl, he⟩, h1⟩, h2⟩ := hc
    simp only [opE] at hr
    split at hr
    · rename_i v' hv; cases hr; exact op_bin ho he h1 h2 hv W ht
    · cases hr
  | not y =>
    simp only [chkOp] at hc
    split at hc <;> try (cases hc; done)
    rename_i ho
    simp only [opE] at hr
    split at hr
    · rename_i b hy; cases hr; exact op_not ho hc hy W ht
    · cases hr
  | neg y =>
    simp only [chkOp] at hc
    split at hc <;> try (cases hc; done)
    rename_i ho
    simp only [opE] at hr
    split at hr
    · rename_i k n hy; cases hr; exact op_neg ho hc hy W ht
    · cases hr
  | conv c y =>
    simp only [chkOp] at hc
    split at hc <;> try (cases hc; done)
    rename_i sT dT x ho
    simp only [Bool.and_eq_true] at hc
    obtain ⟨hx, hty⟩ := hc
    simp only [opE] at hr
    split at hr
    · rename_i k l n hy
      cases hr
      simp only [Bool.and_eq_true] at hty
      obtain ⟨h1, h2⟩ := hty
      split at h2
      · rename_i l' hu
        simp only [decide_eq_true_eq] at h2; subst h2
        exact op_toInt ho hx h1 hu hy W ht
      · cases h2
    · rename_i k l n hy
      cases hr
      simp only [Bool.and_eq_true] at hty
      obtain ⟨h1, h2⟩ := hty
      split at h2
      · rename_i l' hu
        simp only [decide_eq_true_eq] at h2; subst h2
        exact op_toFloat ho hx h1 hu hy W ht
      · cases h2
    · rename_i t hy
      cases hr
      simp only [Bool.and_eq_true] at hty
      obtain ⟨h1, h2⟩ := hty
      split at h1 <;> try (cases h1; done)
      rename_i u1
      split at h2 <;> try (cases h2; done)
      rename_i u2
      rw [← hy]
      exact op_same ho hx u1 u2 hy W ht
    · rename_i k n hy
      cases hr
      simp only [Bool.and_eq_true] at hty
      obtain ⟨h1, h2⟩ := hty
      split at h1 <;> try (cases h1; done)
      rename_i u1
      split at h2 <;> try (cases h2; done)
      rename_i u2
      exact op_strOfInt ho hx u1 u2 hy W ht
    · cases hr
  | mkfn fn x y =>
    simp only [chkOp] at hc
    split at hc <;> try (cases hc; done)
    rename_i ho
    simp only [Bool.and_eq_true, decide_eq_true_eq] at hc
    obtain ⟨⟨rfl, h1⟩, h2⟩ := hc
    simp only [opE] at hr
    cases hr
    exact op_mkfn ho h1 h2 W ht
  | mkmap =>
    simp only [chkOp] at hc
    split at hc <;> try (cases hc; done)
    rename_i ho
    simp only [opE] at hr
    cases hr
    exact op_mkmap ho W
  | mkslice k z n =>
    simp only [chkOp] at hc
    split at hc <;> try (cases hc; done)
    rename_i t l c ho
    simp only [Bool.and_eq_true, decide_eq_true_eq, beq_iff_eq] at hc
    obtain ⟨⟨⟨⟨⟨⟨he, hz⟩, hk⟩, h0⟩, hb⟩, h1⟩, h2⟩ := hc
    split at hb <;> try (cases hb; done)
    rename_i e hu
    obtain ⟨i, hi, hb⟩ := any_some hb
    simp only [elemOk, hu] at he
    simp only [elemZero, hu] at hz
    obtain ⟨i', hi', hsz⟩ := size_of he
    rw [hi] at hi'; cases hi'
    simp only [opE] at hr
    split at hr
    · rename_i n' hn
      split at hr
      · rename_i hcd
        cases hr
        exact op_mkslice ho hu hi hsz (by simpa using hb) hz hk h0 h1 h2 hn hcd.1 hcd.2.1 W ht
      · cases hr
    · cases hr
  | slice k y lo hi mx => exact d_slice hc hr W ht
  | faddr y off =>
    simp only [chkOp] at hc
    split at hc <;> try (cases hc; done)
    rename_i sT x f ho
    simp only [Bool.and_eq_true] at hc
    obtain ⟨hx, hty⟩ := hc
    split at hty <;> try (cases hty; done)
    rename_i fs hu
    split at hty <;> try (cases hty; done)
    rename_i fd hf
    simp only [Bool.and_eq_true, beq_iff_eq] at hty
    simp only [opE] at hr
    split at hr
    · rename_i id i j hy; cases hr; exact op_faddr ho hx hu hf hty.1 hty.2 (.inl ⟨id, i, j, hy, rfl⟩) W ht
    · rename_i k rs i j hy; cases hr; exact op_faddr ho hx hu hf hty.1 hty.2 (.inr ⟨k, rs, i, j, hy, rfl⟩) W ht
    · cases hr
  | iaddr k alen y j => exact d_iaddr hc hr W ht
  | field off agg y =>
    simp only [chkOp] at hc
    split at hc <;> try (cases hc; done)
    rename_i t x f ho
    simp only [Bool.and_eq_true] at hc
    obtain ⟨hx, hty⟩ := hc
    split at hty <;> try (cases hty; done)
    rename_i fs hu
    split at hty <;> try (cases hty; done)
    rename_i fd hf
    simp only [Bool.and_eq_true, beq_iff_eq] at hty
    simp only [opE] at hr
    split at hr
    · rename_i cs hy
      split at hr
      · rename_i hle
        split at hr
        · rename_i v' hv; cases hr; exact op_field ho hx hu hf hty.1 hty.2 hy hle hv W ht
        · cases hr
      · cases hr
    · cases hr
  | index k alen agg y j => exact d_index hc hr W ht
  | lookup str z m key ok => exact d_map (.inl ⟨_, _, _, _, _, rfl⟩) hc hr W ht
  | mapset str m key x => exact d_map (.inr (.inl ⟨_, _, _, _, rfl⟩)) hc hr W ht
  | extr y i =>
    simp only [chkOp] at hc
    split at hc <;> try (cases hc; done)
    rename_i x j ho
    simp only [Bool.and_eq_true, beq_iff_eq] at hc
    obtain ⟨hx, rfl⟩ := hc
    simp only [opE] at hr
    split at hr
    · rename_i vs hy
      split at hr
      · rename_i v' hv; cases hr; exact op_extr ho hx hy hv W ht
      · cases hr
    · cases hr
  | len lk y => exact d_len hc hr W ht
  | append k bytes y x => exact d_append hc hr W ht
  | copy k y x => exact d_copy hc hr W ht
  | clear z x => exact d_map (.inr (.inr ⟨_, _, rfl⟩)) hc hr W ht
  | delete str m key => simp only [opE] at hr; cases hr
  | prim p xs => exact d_prim hc hr W ht
  | min xs =>
    simp only [chkOp] at hc
    split at hc <;> try (cases hc; done)
    rename_i args ts ho
    simp only [opE] at hr
    split at hr
    · rename_i k m l n he
      split at hr
      · rename_i e; subst e; cases hr; exact op_min ho hc he W ht
      · cases hr
    · cases hr
  | max xs =>
    simp only [chkOp] at hc
    split at hc <;> try (cases hc; done)
    rename_i args ts ho
    simp only [opE] at hr
    split at hr
    · rename_i k m l n he
      split at hr
      · rename_i e; subst e; cases hr; exact op_max ho hc he W ht
      · cases hr
    · cases hr
  | complex x y =>
    simp only [chkOp] at hc
    split at hc <;> try (cases hc; done)
    rename_i args ts ho
    simp only [opE] at hr
    split at hr
    · rename_i k m l n h1 h2
      split at hr
      · rename_i e; subst e; cases hr; exact op_complex ho hc h1 h2 W ht
      · cases hr
    · cases hr
  | real x =>
    simp only [chkOp] at hc
    split at hc <;> try (cases hc; done)
    rename_i args ts ho
    simp only [opE] at hr
    split at hr
    · rename_i h1; cases hr; exact op_real ho hc h1 W ht
    · cases hr
  | imag x =>
    simp only [chkOp] at hc
    split at hc <;> try (cases hc; done)
    rename_i args ts ho
    simp only [opE] at hr
    split at hr
    · rename_i h1; cases hr; exact op_imag ho hc h1 W ht
    · cases hr
  | call f xs =>
    simp only [chkOp] at hc
    split at hc <;> try (cases hc; done)
    rename_i g args ts ho
    simp only [Bool.and_eq_true, beq_iff_eq] at hc
    obtain ⟨rfl, hx⟩ := hc
    simp only [opE] at hr
    split at hr
    · rename_i v' h' hca; cases hr; exact op_call hX ho hx hca W ht
    · cases hr
  | callv x xs =>
    simp only [chkOp] at hc
    split at hc <;> try (cases hc; done)
    rename_i y args ts ho
    simp only [Bool.and_eq_true, beq_iff_eq] at hc
    simp only [opE] at hr
    split at hr
    · rename_i f as bs hv
      split at hr
      · rename_i v' h' hca; cases hr; exact op_callv hX ho hc.1 hc.2 hv hca W ht
      · cases hr
    · cases hr
  | bad => cases hr
end
end Go.Ab
