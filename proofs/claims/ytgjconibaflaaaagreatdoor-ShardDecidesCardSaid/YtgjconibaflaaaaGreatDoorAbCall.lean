/- Calls. -/
import Derived.Test.YtgjconibaflaaaaGreatDoorAbEmb
namespace Go.Ab
open Go
set_option linter.unusedVariables false
set_option linter.unusedSimpArgs false

def Callable (P : Program) (f : FuncId) : Prop := ∃ fn, P.funcs[f]? = some fn ∧ fn.name ≠ "runtime.NumGoroutine" ∧ fn.body ≠ none
/-- A function that is called hands back so: by its body, or as the model answers for one without a body. -/
def Does (P : Program) (f : FuncId) (us : Array Value) (w : World) (R : Value → World → Prop) : Prop :=
  (Callable P f ∧ Calls P f us w fun e w' => ∃ u, e = .returned u ∧ R u w') ∨ ∃ u w', (callFunc f us).run P w = .ok (.value u) w' ∧ R u w'
theorem Calls.mono' {P : Program} {f : FuncId} {us : Array Value} {w : World} {R R' : Ending → World → Prop} (h : Calls P f us w R) (hr : ∀ e w', R e w' → R' e w') : Calls P f us w R' :=
  fun cs => let ⟨e, w', fr, r, s, x⟩ := h cs; ⟨e, w', fr, hr _ _ r, s, x⟩
theorem Does.mono {P : Program} {f : FuncId} {us : Array Value} {w : World} {R R' : Value → World → Prop} (h : Does P f us w R) (hr : ∀ u w', R u w' → R' u w') : Does P f us w R' := by
  rcases h with ⟨a, b⟩ | ⟨u, w', a, b⟩
  · exact .inl ⟨a, Calls.mono' b fun e w' ⟨u, h1, h2⟩ => ⟨u, h1, hr _ _ h2⟩⟩
  · exact .inr ⟨u, w', a, hr _ _ b⟩
/-- What calls answer is so in the model. -/
def Answers (P : Program) (f : FuncId) (us : Array Value) (F : Frz) (ε : Env) (h : Heap) (w : World) (v : AV) (h' : Heap) : Prop :=
  Does P f us w fun u w' => ∃ F' ε', Post F ε h w F' ε' h' w' ∧ VRel F' ε' v u
def Sound (P : Program) (X : CallSem) : Prop :=
  ∀ f args h v h', X f args h = some (v, h') → ∀ F ε w us, WRel F ε h w → LRel F ε args us → Answers P f us.toArray F ε h w v h'

theorem unp_at (h' : Heap) (ρ : Nat → Option Nat) : ∀ (R : List Nat) (k : Nat) (g : Heap), R.Nodup → (∀ x ∈ R, x < g.length) →
    ((R.zipIdx k).foldl (fun (g : Heap) (x : Nat × Nat) => g.set x.1 ((h'.at x.2).map (Blk.ren ρ))) g).length = g.length ∧
    (∀ i id, R[i]? = some id → Heap.at ((R.zipIdx k).foldl (fun (g : Heap) (x : Nat × Nat) => g.set x.1 ((h'.at x.2).map (Blk.ren ρ))) g) id = (h'.at (k + i)).map (Blk.ren ρ)) ∧
    (∀ id, id ∉ R → Heap.at ((R.zipIdx k).foldl (fun (g : Heap) (x : Nat × Nat) => g.set x.1 ((h'.at x.2).map (Blk.ren ρ))) g) id = g.at id)
  | [], k, g, _, _ => ⟨rfl, fun i id h => by simp at h, fun id _ => rfl⟩
  | r :: R, k, g, hn, hl => by
    simp only [List.zipIdx_cons, List.foldl_cons]
    rw [List.nodup_cons] at hn
    obtain ⟨h1, h2, h3⟩ := unp_at h' ρ R (k + 1) (g.set r ((h'.at k).map (Blk.ren ρ))) hn.2 (fun x hx => by simpa using hl x (by simp [hx]))
    refine ⟨by rw [h1]; simp, fun i id hi => ?_, fun id hid => ?_⟩
    · cases i with
      | zero =>
        simp at hi; subst hi
        rw [h3 r hn.1, Heap.at_set, if_pos ⟨rfl, hl r (by simp)⟩]; rfl
      | succ i =>
        rw [h2 i id (by simpa using hi), show k + 1 + i = k + (i + 1) by omega]
    · rw [h3 id (fun hm => hid (by simp [hm])), Heap.at_set, if_neg]
      rintro ⟨rfl, _⟩; exact hid (by simp)
theorem unpack_at (h h' : Heap) (R : List Nat) (ρ : Nat → Option Nat) (hn : R.Nodup) (hl : ∀ x ∈ R, x < h.length) :
    (unpack h R h' ρ).length = h.length + (h'.length - R.length) ∧
    (∀ i id, R[i]? = some id → Heap.at (unpack h R h' ρ) id = (h'.at i).map (Blk.ren ρ)) ∧
    (∀ id, id < h.length → id ∉ R → Heap.at (unpack h R h' ρ) id = h.at id) ∧
    (∀ id, h.length ≤ id → Heap.at (unpack h R h' ρ) id = (h'.at (R.length + (id - h.length))).map (Blk.ren ρ)) := by
  obtain ⟨a1, a2, a3⟩ := unp_at h' ρ R 0 h hn hl
  have app : ∀ (A B : Heap) id, Heap.at (A ++ B) id = if id < A.length then A.at id else B.at (id - A.length) := by
    intro A B id
    unfold Heap.at
    rw [List.getElem?_append]
    split <;> rfl
  unfold unpack
  refine ⟨by rw [List.length_append, a1]; simp, fun i id hi => ?_, fun id hid hR => ?_, fun id hid => ?_⟩
  · rw [app, a1, if_pos (hl id (List.mem_of_getElem? hi)), a2 i id hi, Nat.zero_add]
  · rw [app, a1, if_pos hid, a3 id hR]
  · rw [app, a1, if_neg (by omega)]
    unfold Heap.at
    rw [List.getElem?_map, List.getElem?_drop]
    cases h'[R.length + (id - h.length)]? <;> rfl
/-- A call with the blocks that are lent. -/
theorem callA_gen {X : CallSem} {f : FuncId} {D : Array Value → World → (Value → World → Prop) → Prop} (hmono : ∀ {us w R R'}, D us w R → (∀ u w', R u w' → R' u w') → D us w R')
    (hX : ∀ args h v h', X f args h = some (v, h') → ∀ F ε w us, WRel F ε h w → LRel F ε args us → D us.toArray w fun u w' => ∃ F' ε', Post F ε h w F' ε' h' w' ∧ VRel F' ε' v u)
    {args : List AV} {h h' : Heap} {v : AV} (hr : callA X f args h = some (v, h')) {F : Frz} {ε : Env} {w : World} {us : List Value}
    (W : WRel F ε h w) (ha : LRel F ε args us) : D us.toArray w fun u w' => ∃ F' ε', Post F ε h w F' ε' h' w' ∧ VRel F' ε' v u := by
  simp only [callA] at hr
  generalize hR : reach h 1000 (refsL args) [] = R at hr
  obtain ⟨Rn, Rl, _⟩ := reach_spec h 1000 (refsL args) [] List.nodup_nil (by simp)
  rw [hR] at Rn Rl
  split at hr
  · cases hr
  · rename_i v0 k' hX0
    cases hr
    let δ : Env := fun i => (R[i]?).bind ε
    have hcar : Carry (pos R) ε δ := by
      intro id i l h1 h2
      have := pos_some h1
      simp [δ, this, h2]
    have hlt : ∀ i B0, Heap.at (pack h R (pos R)) i = some B0 → i < R.length := by
      intro i B0 hi
      have := Heap.at_lt hi
      rwa [pack_length] at this
    have hsub : ∀ i B0, Heap.at (pack h R (pos R)) i = some B0 → ∃ B, h.at (R.getD i 0) = some B ∧ B0 = B.ren (pos R) ∧ δ i = ε (R.getD i 0) := by
      intro i B0 hi
      have hil := hlt i B0 hi
      rw [pack_at] at hi
      have hg : R[i]? = some R[i] := by simp [hil]
      rw [hg] at hi
      simp only [Option.bind_some, Option.map_eq_some_iff] at hi
      obtain ⟨B, h1, h2⟩ := hi
      refine ⟨B, by simpa [List.getD_eq_getElem?_getD, hg] using h1, h2.symm, by simp [δ, hg, List.getD_eq_getElem?_getD]⟩
    have W0 : WRel F δ (pack h R (pos R)) w := W.wf.sub (R := fun i => R.getD i 0) hsub (fun i j B B' hi hj hij => by
      have h1 := hlt i B hi
      have h2 := hlt j B' hj
      simp only [List.getD_eq_getElem?_getD, List.getElem?_eq_getElem h1, List.getElem?_eq_getElem h2, Option.getD_some] at hij
      exact (List.getElem?_inj h1 Rn).1 (by rw [List.getElem?_eq_getElem h1, List.getElem?_eq_getElem h2, hij])) hcar (fun i hi => by
      rw [pack_length] at hi
      simp [δ, List.getElem?_eq_none hi])
    refine hmono (hX _ _ v0 k' hX0 F δ w us W0 (ha.ren hcar)) ?_
    rintro u w' ⟨F', δ', P1, V1⟩
    have hk'len : R.length ≤ k'.length := by have := P1.len; rwa [pack_length] at this
    obtain ⟨u1, u2, u3, u4⟩ := unpack_at h k' R (fun i => match R[i]? with | some id => some id | none => some (h.length + (i - R.length))) Rn Rl
    let ε' : Env := fun id => if id < h.length then ε id else δ' (R.length + (id - h.length))
    have hle : ε.le ε' := by
      intro id l hid
      have : id < h.length := by
        rcases Nat.lt_or_ge id h.length with h1 | h1
        · exact h1
        · rw [W.dom id h1] at hid; cases hid
      simp [ε', this, hid]
    have hcar' : Carry (fun i => match R[i]? with | some id => some id | none => some (h.length + (i - R.length))) δ' ε' := by
      intro i j l h1 h2
      simp only at h1
      split at h1
      · rename_i id hid
        cases h1
        have hil : i < R.length := (List.getElem?_eq_some_iff.1 hid).1
        have hj : j < h.length := Rl j (List.mem_of_getElem? hid)
        have := P1.env i (by rw [pack_length]; exact hil)
        simp only [ε', if_pos hj]
        rw [this] at h2
        simpa [δ, hid] using h2
      · rename_i hid
        cases h1
        have hil : R.length ≤ i := List.getElem?_eq_none_iff.1 hid
        simp only [ε']
        rw [if_neg (by omega), show R.length + (h.length + (i - R.length) - h.length) = i by omega]
        exact h2
    have PF := Post.embed (m := h.at) (m' := Heap.at (unpack h R k' _)) (R := fun i => R.getD i 0) W.wf (fun i B0 hi => let ⟨B, a1, _, a3⟩ := hsub i B0 hi; ⟨B, a1, a3⟩) P1 hle hcar' (fun id B hid => by
      rcases Nat.lt_or_ge id h.length with h1 | h1
      · by_cases hm : id ∈ R
        · obtain ⟨i, hi⟩ := List.getElem?_of_mem hm
          rw [u2 i id hi] at hid
          obtain ⟨B0, b1, b2⟩ := Option.map_eq_some_iff.1 hid
          exact .inr ⟨i, B0, b1, b2.symm, by simp [hi]⟩
        · rw [u3 id h1 hm] at hid
          refine .inl ⟨hid, fun i B0 hi e => hm ?_⟩
          have hil := hlt i B0 hi
          rw [← e]
          simp [List.getD_eq_getElem?_getD, List.getElem?_eq_getElem hil]
      · rw [u4 id h1] at hid
        obtain ⟨B0, b1, b2⟩ := Option.map_eq_some_iff.1 hid
        refine .inr ⟨_, B0, b1, b2.symm, ?_⟩
        have : R[R.length + (id - h.length)]? = none := List.getElem?_eq_none (by omega)
        simp only [this, Option.some.injEq]
        omega)
    refine ⟨F', ε', PF.post (fun id hid => by simp [ε', hid]) (by rw [u1]; omega) (fun id hid => ?_), V1.ren hcar'⟩
    rw [u1] at hid
    simp only [ε']
    rw [if_neg (by omega)]
    exact P1.W.dom _ (by omega)
theorem callA_sound {P : Program} {X : CallSem} (hX : Sound P X) {f : FuncId} {args : List AV} {h h' : Heap} {v : AV} (hr : callA X f args h = some (v, h')) {F : Frz} {ε : Env} {w : World} {us : List Value}
    (W : WRel F ε h w) (ha : LRel F ε args us) : Answers P f us.toArray F ε h w v h' :=
  callA_gen (D := Does P f) (fun h g => Does.mono h g) (fun args h v h' hr F ε w us W ha => hX f args h v h' hr F ε w us W ha) hr W ha
section
variable {P : Program} {X : CallSem} {F : Frz} {ε : Env} {w : World} {s s' : St} {a : Act} {o : Oper} {v : AV}
theorem LRel.append {F : Frz} {ε : Env} {as bs : List AV} {us vs : List Value} (h : LRel F ε as us) (g : LRel F ε bs vs) : LRel F ε (as ++ bs) (us ++ vs) := by
  refine ⟨by simp [h.1, g.1], fun i v u hv hu => ?_⟩
  rw [List.getElem?_append] at hv hu
  rw [h.1] at hu
  split at hv
  · rename_i hlt; rw [if_pos hlt] at hu; exact h.2 i v u hv hu
  · rename_i hlt; rw [if_neg hlt] at hu; exact g.2 _ v u hv hu
theorem run_callFunc {f : FuncId} (hc : Callable P f) (us : Array Value) : (callFunc f us).run P w = .ok (.enter f us) w := by
  obtain ⟨fn, h1, h2, h3⟩ := hc
  simp [callFunc, h1, h2, h3]
theorem gives_call {f : FuncId} {us : Array Value} {h h' : Heap} (h1 : (execOp a.eval o).run P w = (callFunc f us).run P w) (h2 : Answers P f us F ε h w v h') : OpOk P o a F ε h w v h' := by
  rcases h2 with ⟨hc, h2⟩ | ⟨u, w', h3, h4⟩
  · intro next Q hn
    unfold Oper.wp
    rw [h1, run_callFunc hc us, Oper.upon_enter]
    refine Calls.mono' h2 ?_
    rintro e w' ⟨u, rfl, F', ε', p, q⟩
    exact hn u w' ⟨F', ε', p, q⟩
  · exact gives_value (by rw [h1]; exact h3) h4
theorem op_call (hX : Sound P X) {f : FuncId} {args : Array Operand} {ts : Array TypeId} {xs : List AX} {h' : Heap} (ho : o.op = .call { callee := .value (.func f), args := args, argTypes := ts }) (hx : chkXs args.toList xs = true)
    (hr : callA X f (xs.map s.ev) s.hp = some (v, h')) (W : WRel F ε s.hp w) (ht : TRel F ε s.tm a.tmps) : OpOk P o a F ε s.hp w v h' := by
  have hrel := evs_rel hx ht
  have hans := callA_sound hX hr W hrel
  refine gives_call (f := f) (us := (args.map a.eval)) ?_ (by
    have e : (args.toList.map a.eval).toArray = args.map a.eval := by apply Array.ext'; simp
    rw [e] at hans; exact hans)
  simp only [execOp, ho, resolve, Act.eval, Frame.eval, Deferred.ofValue, Sem.run_bind, Sem.run_pure, Result.andThen_ok, invoke, Array.empty_append, Array.append_empty]
theorem op_callv (hX : Sound P X) {f : FuncId} {y : Operand} {args : Array Operand} {ts : Array TypeId} {x : AX} {xs : List AX} {as bs : List AV} {h' : Heap} (ho : o.op = .call { callee := .value y, args := args, argTypes := ts }) (hy : chkX y x = true) (hx : chkXs args.toList xs = true)
    (hv : s.ev x = .fn (.func f) as bs) (hr : callA X f (as ++ xs.map s.ev ++ bs) s.hp = some (v, h')) (W : WRel F ε s.hp w) (ht : TRel F ε s.tm a.tmps) : OpOk P o a F ε s.hp w v h' := by
  have hrel := evs_rel hx ht
  have hfn := ev_rel hy ht
  rw [hv] at hfn
  generalize hev : a.eval y = u at hfn
  cases hfn with
  | fn _ ha hb h1 h2 =>
    rename_i us ws
    have la : LRel F ε as us.toList := ⟨by simpa using ha, fun i v u p q => h1 i v u p (by simpa using q)⟩
    have lb : LRel F ε bs ws.toList := ⟨by simpa using hb, fun i v u p q => h2 i v u p (by simpa using q)⟩
    have hans := callA_sound hX hr W ((la.append hrel).append lb)
    refine gives_call (f := f) (us := us ++ args.map a.eval ++ ws) ?_ (by
      have e : (us.toList ++ args.toList.map a.eval ++ ws.toList).toArray = us ++ args.map a.eval ++ ws := by apply Array.ext'; simp
      rw [e] at hans; exact hans)
    simp only [execOp, ho, resolve, hev, Deferred.ofValue, Sem.run_bind, Sem.run_pure, Result.andThen_ok, invoke]
end
end Go.Ab
