/- Operations in any order: the proof. -/
import Derived.Test.YtgjconibaflaaaaGreatDoorAbDraw
namespace Go.Ab
open Go
set_option linter.unusedVariables false
set_option linter.unusedSimpArgs false

/-- A region of any order, and its run in the order of its text. -/
structure DR (P : Program) (X : CallSem) (N : Nat) (ops : Array Oper) (aos : List AO) (an : Nat → List Nat) (tr : Nat → St) : Prop where
  chk : ∀ (i : Nat) (o : Oper) (ao : AO), ops[i]? = some o → aos[i]? = some ao → chkO P N ops o ao = true
  len : ops.size = aos.length
  step : ∀ (i : Nat) (ao : AO), aos[i]? = some ao → stepO X ao (tr i) = some (tr (i + 1))
  con : ∀ (i : Nat) (ao : AO), aos[i]? = some ao → ∀ v, AX.c v ∈ ao.op.axs → v.refs = []
  anc : ∀ (i : Nat) (o : Oper), ops[i]? = some o → (∀ e ∈ deps o, e < i) ∧ ∀ j, j ∈ an i ↔ (j ∈ deps o ∨ ∃ e ∈ deps o, j ∈ an e)
  pair : ∀ (i j : Nat) (a b : AO), i < j → aos[i]? = some a → aos[j]? = some b → i ∉ an j →
    noneOf a.dst b.looks = true ∧ noneOf b.dst a.looks = true ∧ (∀ d, a.dst = some d → b.dst ≠ some d) ∧ clash (footO a (tr i)) (footO b (tr j)) = false

section
variable {P : Program} {X : CallSem} {N : Nat} {ops : Array Oper} {aos : List AO} {an : Nat → List Nat} {tr : Nat → St}
theorem step_cases {ao : AO} {s s' : St} (h : stepO X ao s = some s') :
    (wanted s ao.guard = some false ∧ s' = s.put ao.dst (.tup []) ∧ footO ao s = ([], [])) ∨ (∃ v s1, wanted s ao.guard = some true ∧ opE X ao.op s = some (v, s1) ∧ s' = s1.put ao.dst v ∧ footO ao s = foot ao.op s) := by
  unfold stepO at h
  split at h
  · rename_i hw
    split at h
    · rename_i v s1 hop
      cases h
      exact .inr ⟨v, s1, hw, hop, rfl, by simp [footO, hw]⟩
    · cases h
  · rename_i hw
    cases h
    exact .inl ⟨hw, rfl, by simp [footO, hw]⟩
  · cases h
theorem look_put (s : St) (d : Option Nat) (v : AV) (t : Nat) : look t (s.put d v).tm = if d = some t then v else look t s.tm := by
  cases d with
  | none => simp [St.put]
  | some d =>
    simp only [St.put, look]
    by_cases h : t = d
    · subst h; simp
    · rw [if_neg h, if_neg (by simpa using fun e => h e.symm)]
/-- Where an operation's run writes. -/
def touch (aos : List AO) (tr : Nat → St) (i id : Nat) : Prop := (∃ ao, aos[i]? = some ao ∧ id ∈ (footO ao (tr i)).2) ∨ ((tr i).hp.length ≤ id ∧ id < (tr (i + 1)).hp.length)
theorem DR.grow (D : DR P X N ops aos an tr) {i : Nat} (hi : i < aos.length) : (tr i).hp.length ≤ (tr (i + 1)).hp.length := by
  rcases step_cases (D.step i aos[i] (by simp [hi])) with ⟨_, h, _⟩ | ⟨v, s1, _, h1, h2, _⟩
  · rw [h, put_hp]; exact Nat.le_refl _
  · rw [h2, put_hp]; exact (opE_keeps h1).1
theorem DR.mono (D : DR P X N ops aos an tr) {i j : Nat} (hij : i ≤ j) (hj : j ≤ aos.length) : (tr i).hp.length ≤ (tr j).hp.length := by
  induction j with
  | zero => have : i = 0 := by omega
            subst this; exact Nat.le_refl _
  | succ j ih =>
    rcases Nat.lt_or_ge i (j + 1) with h | h
    · exact Nat.le_trans (ih (by omega) (by omega)) (D.grow (by omega))
    · have : i = j + 1 := by omega
      subst this; exact Nat.le_refl _
theorem DR.keepH (D : DR P X N ops aos an tr) {i id : Nat} (hi : i < aos.length) (h : ¬ touch aos tr i id) : (tr (i + 1)).hp.at id = (tr i).hp.at id := by
  have hs := D.step i aos[i] (by simp [hi])
  rcases step_cases hs with ⟨_, h1, _⟩ | ⟨v, s1, _, h1, h2, h3⟩
  · rw [h1, put_hp]
  · have hg := opE_keeps h1
    rcases Nat.lt_or_ge id (tr i).hp.length with h4 | h4
    · rw [h2, put_hp]
      refine hg.2 id h4 fun hm => h (.inl ⟨aos[i], by simp [hi], by rw [h3]; exact hm⟩)
    · rw [at_none h4]
      rcases Nat.lt_or_ge id (tr (i + 1)).hp.length with h5 | h5
      · exact (h (.inr ⟨h4, h5⟩)).elim
      · exact at_none h5
theorem DR.keepT (D : DR P X N ops aos an tr) {i t : Nat} {ao : AO} (hi : aos[i]? = some ao) (h : ao.dst ≠ some t) : look t (tr (i + 1)).tm = look t (tr i).tm := by
  rcases step_cases (D.step i ao hi) with ⟨_, h1, _⟩ | ⟨v, s1, _, h1, h2, _⟩
  · rw [h1, look_put, if_neg h]
  · rw [h2, look_put, if_neg h, opE_tm h1]
open Classical in
/-- The blocks after the operations of S among the first i. -/
noncomputable def mixH (aos : List AO) (tr : Nat → St) (S : Nat → Prop) : Nat → Nat → Option Blk
  | 0, id => (tr 0).hp.at id
  | i + 1, id => if S i ∧ touch aos tr i id then (tr (i + 1)).hp.at id else mixH aos tr S i id
open Classical in
noncomputable def mixT (aos : List AO) (tr : Nat → St) (S : Nat → Prop) : Nat → Nat → AV
  | 0, t => look t (tr 0).tm
  | i + 1, t => if S i ∧ (aos[i]?).bind (·.dst) = some t then look t (tr (i + 1)).tm else mixT aos tr S i t
theorem mixH_up {S : Nat → Prop} {i id : Nat} : ∀ {n : Nat}, i ≤ n → (∀ j, i ≤ j → j < n → S j → ¬ touch aos tr j id) → mixH aos tr S n id = mixH aos tr S i id
  | 0, h, _ => by have : i = 0 := by omega
                  subst this; rfl
  | n + 1, h, hh => by
    rcases Nat.lt_or_ge i (n + 1) with h1 | h1
    · simp only [mixH]
      rw [if_neg (fun ⟨a, b⟩ => hh n (by omega) (by omega) a b)]
      exact mixH_up (by omega) fun j h2 h3 => hh j h2 (by omega)
    · have : i = n + 1 := by omega
      subst this; rfl
theorem mixT_up {S : Nat → Prop} {i t : Nat} : ∀ {n : Nat}, i ≤ n → (∀ j, i ≤ j → j < n → S j → (aos[j]?).bind (·.dst) ≠ some t) → mixT aos tr S n t = mixT aos tr S i t
  | 0, h, _ => by have : i = 0 := by omega
                  subst this; rfl
  | n + 1, h, hh => by
    rcases Nat.lt_or_ge i (n + 1) with h1 | h1
    · simp only [mixT]
      rw [if_neg (fun ⟨a, b⟩ => hh n (by omega) (by omega) a b)]
      exact mixT_up (by omega) fun j h2 h3 => hh j h2 (by omega)
    · have : i = n + 1 := by omega
      subst this; rfl
theorem DR.mixH_all (D : DR P X N ops aos an tr) {S : Nat → Prop} {id : Nat} : ∀ {i : Nat}, i ≤ aos.length → (∀ j, j < i → touch aos tr j id → S j) → mixH aos tr S i id = (tr i).hp.at id
  | 0, _, _ => rfl
  | i + 1, hi, hh => by
    simp only [mixH]
    by_cases h : touch aos tr i id
    · rw [if_pos ⟨hh i (by omega) h, h⟩]
    · rw [if_neg (fun ⟨_, b⟩ => h b), D.mixH_all (by omega) fun j h1 h2 => hh j (by omega) h2, D.keepH (by omega) h]
theorem DR.mixT_all (D : DR P X N ops aos an tr) {S : Nat → Prop} {t : Nat} : ∀ {i : Nat}, i ≤ aos.length → (∀ j, j < i → (aos[j]?).bind (·.dst) = some t → S j) → mixT aos tr S i t = look t (tr i).tm
  | 0, _, _ => rfl
  | i + 1, hi, hh => by
    simp only [mixT]
    have hg : aos[i]? = some aos[i] := by simp [show i < aos.length by omega]
    by_cases h : (aos[i]?).bind (·.dst) = some t
    · rw [if_pos ⟨hh i (by omega) h, h⟩]
    · rw [if_neg (fun ⟨_, b⟩ => h b), D.mixT_all (by omega) fun j h1 h2 => hh j (by omega) h2]
      rw [hg] at h
      exact (D.keepT hg h).symm
theorem mixH_congr {S S' : Nat → Prop} {id : Nat} : ∀ {n : Nat}, (∀ j, j < n → touch aos tr j id → (S j ↔ S' j)) → mixH aos tr S n id = mixH aos tr S' n id
  | 0, _ => rfl
  | n + 1, h => by
    simp only [mixH]
    rw [mixH_congr fun j hj => h j (by omega)]
    by_cases ht : touch aos tr n id
    · have := h n (by omega) ht
      by_cases hs : S n
      · rw [if_pos ⟨hs, ht⟩, if_pos ⟨this.1 hs, ht⟩]
      · rw [if_neg (fun a => hs a.1), if_neg (fun a => hs (this.2 a.1))]
    · rw [if_neg (fun a => ht a.2), if_neg (fun a => ht a.2)]
theorem mixT_congr {S S' : Nat → Prop} {t : Nat} : ∀ {n : Nat}, (∀ j, j < n → (aos[j]?).bind (·.dst) = some t → (S j ↔ S' j)) → mixT aos tr S n t = mixT aos tr S' n t
  | 0, _ => rfl
  | n + 1, h => by
    simp only [mixT]
    rw [mixT_congr fun j hj => h j (by omega)]
    by_cases ht : (aos[n]?).bind (·.dst) = some t
    · have := h n (by omega) ht
      by_cases hs : S n
      · rw [if_pos ⟨hs, ht⟩, if_pos ⟨this.1 hs, ht⟩]
      · rw [if_neg (fun a => hs a.1), if_neg (fun a => hs (this.2 a.1))]
    · rw [if_neg (fun a => ht a.2), if_neg (fun a => ht a.2)]

/-- What holds behind the operations of S. -/
structure Inv (aos : List AO) (an : Nat → List Nat) (tr : Nat → St) (N : Nat) (F0 : Frz) (ε0 : Env) (w0 : World) (ds : List Deferred) (S : Nat → Prop) (F : Frz) (ε : Env) (a : Act) (w : World) : Prop where
  P : PostF F0 ε0 (tr 0).hp.at w0 F ε (mixH aos tr S aos.length) w
  T : ∀ t, VRel F ε (mixT aos tr S aos.length t) (a.tmps.getD t undef)
  N : N ≤ a.tmps.size
  D : a.defers = ds
  env : ∀ id, id < (tr 0).hp.length → ε id = ε0 id
  dom : ∀ id l, ε id = some l → id < (tr 0).hp.length ∨ ∃ j, j < aos.length ∧ S j ∧ (tr j).hp.length ≤ id ∧ id < (tr (j + 1)).hp.length
  clo : ∀ j, S j → j < aos.length ∧ ∀ i ∈ an j, S i
  wg : ∀ j ao, S j → aos[j]? = some ao → ∀ id ∈ (footO ao (tr j)).2, ∃ l, ε id = some l

theorem noneOf_mem {d : Nat} {l : List Nat} (h : noneOf (some d) l = true) : d ∉ l := by
  intro hm
  simp only [noneOf, Bool.not_eq_true'] at h
  rw [(has_iff l d).2 hm] at h; cases h
theorem clash_left {a b : List Nat × List Nat} (h : clash a b = false) {x : Nat} (h1 : x ∈ a.2) (h2 : x ∈ b.1 ++ b.2) : False := by
  simp only [clash, Bool.or_eq_false_iff] at h
  have := (meets_iff a.2 (b.1 ++ b.2)).2 ⟨x, h1, h2⟩
  rw [this] at h; cases h.1
theorem clash_right {a b : List Nat × List Nat} (h : clash a b = false) {x : Nat} (h1 : x ∈ b.2) (h2 : x ∈ a.1 ++ a.2) : False := by
  simp only [clash, Bool.or_eq_false_iff] at h
  rcases List.mem_append.1 h2 with h3 | h3
  · have := (meets_iff b.2 a.1).2 ⟨x, h1, h3⟩
    rw [this] at h; cases h.2
  · exact clash_left (by simp only [clash, Bool.or_eq_false_iff]; exact h) h3 (List.mem_append.2 (.inr h1))
/-- A proposition that holds wherever one operation may lead, holds. -/
theorem wp_const {o : Oper} {a : Act} {w : World} {C : Prop} (h : if Region.wanted o (yielded ops a.tmps) then o.wp P a w (fun _ _ => C) (fun _ _ _ => False) ∨ (o.asks P a w ∧ LetsOut (fun _ _ _ => False)) else C) : C := by
  split at h
  · rcases h with h | ⟨_, _, _, h⟩
    · unfold Oper.wp at h
      generalize (execOp a.eval o).run P w = r at h
      cases r with
      | ok n w' =>
        cases n with
        | value v => exact h
        | skip => exact h
        | defer d => exact h
        | enter f us =>
          obtain ⟨e, w2, fr, hR, _⟩ := h []
          cases e with
          | returned v => exact hR
          | panicked c => exact hR.elim
          | outgrown => obtain ⟨_, _, h⟩ := hR; exact h.elim
        | row r us =>
          obtain ⟨v, w2, hR, _⟩ := h default []
          exact hR
        | _ => exact h.elim
      | halt x w' => cases x <;> exact h.elim
    · exact h.elim
  · exact h
/-- The run in the order of the text leads through good states. -/
theorem DR.lex (D : DR P X N ops aos an tr) (hX : Sound P X) {F : Frz} {ε : Env} {a : Act} {w : World} (W : WRel F ε (tr 0).hp w) (ht : TRel F ε (tr 0).tm a.tmps) (hN : N ≤ a.tmps.size) :
    ∀ i, i ≤ aos.length → ∃ (F : Frz) (ε : Env) (a : Act) (w : World), WRel F ε (tr i).hp w ∧ TRel F ε (tr i).tm a.tmps ∧ N ≤ a.tmps.size
  | 0, _ => ⟨F, ε, a, w, W, ht, hN⟩
  | i + 1, hi => by
    obtain ⟨F1, ε1, a1, w1, W1, t1, n1⟩ := D.lex hX W ht hN i (by omega)
    have ho : ops[i]? = some (ops[i]'(by rw [D.len]; omega)) := by simp [show i < ops.size by rw [D.len]; omega]
    have ha : aos[i]? = some aos[i] := by simp [show i < aos.length by omega]
    exact wp_const (ops := ops) (P := P) (step_sound hX (D.chk i _ _ ho ha) (D.step i _ ha) W1 t1 n1 fun a' w' F' ε' p q r _ => ⟨F', ε', a', w', p.W, q, r⟩)

theorem looks_of {ao : AO} {t : Nat} (h : AX.t t ∈ ao.op.axs) : t ∈ ao.looks := by
  have key : ∀ l : List AX, AX.t t ∈ l → t ∈ tmpsOf l := by
    intro l
    induction l with
    | nil => intro h; cases h
    | cons x l ih =>
      intro h
      cases x with
      | t n =>
        simp only [tmpsOf, List.mem_cons] at h ⊢
        rcases h with h | h
        · exact .inl (by cases h; rfl)
        · exact .inr (ih h)
      | c v =>
        simp only [tmpsOf]
        rcases List.mem_cons.1 h with h | h
        · cases h
        · exact ih h
  simp only [AO.looks, List.mem_append]
  exact .inr (key _ h)
theorem looks_guard {ao : AO} {t : Nat} {b : Bool} (h : ao.guard = some (t, b)) : t ∈ ao.looks := by simp [AO.looks, h]
def keepAll (s : St) (l : List Nat) : List (Nat × AV) := l.map fun t => (t, look t s.tm)
theorem look_keepAll (s : St) (t : Nat) : ∀ l : List Nat, t ∈ l → look t (keepAll s l) = look t s.tm
  | [], h => by cases h
  | u :: l, h => by
    simp only [keepAll, List.map_cons, look]
    split
    · rename_i e; subst e; rfl
    · rename_i e
      exact look_keepAll s t l ((List.mem_cons.1 h).resolve_left e)
theorem look_keepAll_or (s : St) (t : Nat) (l : List Nat) : (t ∈ l ∧ look t (keepAll s l) = look t s.tm) ∨ look t (keepAll s l) = .dead := by
  by_cases h : t ∈ l
  · exact .inl ⟨h, look_keepAll s t l h⟩
  · right
    induction l with
    | nil => rfl
    | cons u l ih =>
      simp only [keepAll, List.map_cons, look]
      rw [if_neg (fun e => h (by simp [e]))]
      exact ih fun hm => h (by simp [hm])
/-- A heap cut down to some blocks. -/
noncomputable def cutH (h : Heap) (Z : Nat → Prop) : Heap := by
  classical exact h.zipIdx.map fun (b, i) => if Z i then b else none
theorem cutH_cut (h : Heap) (Z : Nat → Prop) : Cut Z h (cutH h Z) := by
  refine ⟨by simp [cutH], fun id hid => ?_, fun id hid => ?_⟩
  · unfold Heap.at cutH
    rw [List.getElem?_map, List.getElem?_zipIdx]
    cases hh : h[id]? <;> simp [hid]
  · unfold Heap.at cutH
    rw [List.getElem?_map, List.getElem?_zipIdx]
    cases hh : h[id]? <;> simp [hid]
theorem put_getD {a : Act} {d : Option Nat} {u : Value} {t : Nat} (hd : ∀ x, d = some x → x < a.tmps.size) : (a.put d u).tmps.getD t undef = if d = some t then u else a.tmps.getD t undef := by
  cases d with
  | none => simp [Act.put]
  | some d =>
    have := hd d rfl
    simp only [Act.put, Option.some.injEq]
    by_cases h : d = t
    · subst h; simp [Array.getD_eq_getD_getElem?, this]
    · rw [if_neg h, Array.getD_eq_getD_getElem?, Array.getD_eq_getD_getElem?, Array.getElem?_setIfInBounds_ne h]

theorem DR.lt (D : DR P X N ops aos an tr) (L : ∀ i, i ≤ aos.length → ∃ (F : Frz) (ε : Env) (a : Act) (w : World), WRel F ε (tr i).hp w ∧ TRel F ε (tr i).tm a.tmps ∧ N ≤ a.tmps.size) (i : Nat) (ao : AO) (ha : aos[i]? = some ao) :
    (∀ x ∈ ao.op.axs, ∀ id ∈ ((tr i).ev x).refs, id < (tr i).hp.length) ∧ (∀ id B, (tr i).hp.at id = some B → ∀ r ∈ B.refs, r < (tr i).hp.length) ∧ ∀ id ∈ (footO ao (tr i)).1 ++ (footO ao (tr i)).2, id < (tr i).hp.length := by
  have hil : i < aos.length := (List.getElem?_eq_some_iff.1 ha).1
  obtain ⟨F, ε, a, w, W, T, _⟩ := L i (by omega)
  have lt : ∀ id l, ε id = some l → id < (tr i).hp.length := by
    intro id l h
    rcases Nat.lt_or_ge id (tr i).hp.length with h1 | h1
    · exact h1
    · rw [W.dom id h1] at h; cases h
  have h1 : ∀ x ∈ ao.op.axs, ∀ id ∈ ((tr i).ev x).refs, id < (tr i).hp.length := by
    intro x hx id hid
    cases x with
    | t n => obtain ⟨l, hl⟩ := (T n).good id hid; exact lt id l hl
    | c v =>
      have := D.con i ao ha v hx
      simp only [St.ev, this] at hid; cases hid
  have h2 : ∀ id B, (tr i).hp.at id = some B → ∀ r ∈ B.refs, r < (tr i).hp.length := by
    intro id B hB r hr
    obtain ⟨l, _, hb⟩ := W.blk id B hB
    obtain ⟨l', hl⟩ := hb.good r hr
    exact lt r l' hl
  refine ⟨h1, h2, ?_⟩
  rcases step_cases (D.step i ao ha) with ⟨_, _, hf⟩ | ⟨v, s1, _, _, _, hf⟩
  · rw [hf]; intro id h; simp at h
  · rw [hf]; exact foot_good h1 fun id B _ _ hB => h2 id B hB
section
variable {F0 : Frz} {ε0 : Env} {w0 : World} {ds : List Deferred} {S : Nat → Prop} {F : Frz} {ε : Env} {a : Act} {w : World} {i : Nat} {ao : AO} {o : Oper}
/-- What comes behind one that has not run has not run. -/
theorem Inv.later (I : Inv aos an tr N F0 ε0 w0 ds S F ε a w) (hi : ¬ S i) {j : Nat} (h : i ∈ an j) : ¬ S j := fun hj => hi ((I.clo j hj).2 i h)
theorem Inv.tmp (D : DR P X N ops aos an tr) (I : Inv aos an tr N F0 ε0 w0 ds S F ε a w) (hi : ¬ S i) (ha : aos[i]? = some ao) (hd : ∀ j ∈ an i, S j) {t : Nat} (ht : t ∈ ao.looks) : mixT aos tr S aos.length t = look t (tr i).tm := by
  have hil : i < aos.length := (List.getElem?_eq_some_iff.1 ha).1
  rw [mixT_up (i := i) (by omega) fun j h1 h2 h3 h4 => ?_, D.mixT_all (by omega) fun j h1 h2 => ?_]
  · have hb : aos[j]? = some aos[j] := by simp [show j < aos.length by omega]
    rw [hb] at h2
    by_cases hm : j ∈ an i
    · exact hd j hm
    · have := (D.pair j i _ _ h1 hb ha hm).1
      simp only [Option.bind_some] at h2
      rw [h2] at this
      exact (noneOf_mem this ht).elim
  · rcases Nat.lt_or_ge i j with h5 | h5
    · have hb : aos[j]? = some aos[j] := by simp [h2]
      rw [hb] at h4
      by_cases hm : i ∈ an j
      · exact I.later hi hm h3
      · have := (D.pair i j _ _ h5 ha hb hm).2.1
        simp only [Option.bind_some] at h4
        rw [h4] at this
        exact noneOf_mem this ht
    · have : j = i := by omega
      subst this; exact hi h3
theorem Inv.blk (D : DR P X N ops aos an tr) (I : Inv aos an tr N F0 ε0 w0 ds S F ε a w) (hi : ¬ S i) (ha : aos[i]? = some ao) (hd : ∀ j ∈ an i, S j) {id : Nat} {l : Loc} (hg : ε id = some l) (hz : id ∈ (footO ao (tr i)).1 ++ (footO ao (tr i)).2) (hlt : id < (tr i).hp.length) :
    mixH aos tr S aos.length id = (tr i).hp.at id := by
  have hil : i < aos.length := (List.getElem?_eq_some_iff.1 ha).1
  rw [mixH_up (i := i) (by omega) fun j h1 h2 h3 h4 => ?_, D.mixH_all (by omega) fun j h1 h2 => ?_]
  · have hb : aos[j]? = some aos[j] := by simp [show j < aos.length by omega]
    rcases h2 with ⟨b, hb', hm⟩ | ⟨h2, h3⟩
    · by_cases han : j ∈ an i
      · exact hd j han
      · exact (clash_left (D.pair j i _ _ h1 hb' ha han).2.2.2 hm hz).elim
    · rcases I.dom id l hg with h4 | ⟨k, k1, k2, k3, k4⟩
      · have := D.mono (i := 0) (j := j) (by omega) (by omega); omega
      · have : k = j := by
          rcases Nat.lt_or_ge k j with h5 | h5
          · have := D.mono (i := k + 1) (j := j) (by omega) (by omega); omega
          · rcases Nat.lt_or_ge j k with h6 | h6
            · have := D.mono (i := j + 1) (j := k) (by omega) (by omega); omega
            · omega
        subst this; exact k2
  · rcases Nat.lt_or_ge i j with h5 | h5
    · rcases h4 with ⟨b, hb', hm⟩ | ⟨h4, h6⟩
      · by_cases han : i ∈ an j
        · exact I.later hi han h3
        · exact clash_right (D.pair i j _ _ h5 ha hb' han).2.2.2 hm hz
      · have := D.mono (i := i) (j := j) (by omega) (by omega); omega
    · have : j = i := by omega
      subst this; exact hi h3
/-- One more operation has run: of its temporary. -/
theorem Inv.tmp' (D : DR P X N ops aos an tr) (I : Inv aos an tr N F0 ε0 w0 ds S F ε a w) (hi : ¬ S i) (ha : aos[i]? = some ao) (t : Nat) :
    mixT aos tr (fun j => S j ∨ j = i) aos.length t = if ao.dst = some t then look t (tr (i + 1)).tm else mixT aos tr S aos.length t := by
  have hil : i < aos.length := (List.getElem?_eq_some_iff.1 ha).1
  split
  · rename_i hd
    rw [mixT_up (i := i + 1) (by omega) fun j h1 h2 h3 h4 => ?_]
    · simp only [mixT]
      rw [if_pos ⟨.inr rfl, by rw [ha]; exact hd⟩]
    · have hb : aos[j]? = some aos[j] := by simp [h2]
      rw [hb] at h4
      rcases h3 with h3 | h3
      · by_cases hm : i ∈ an j
        · exact I.later hi hm h3
        · exact (D.pair i j _ _ (by omega) ha hb hm).2.2.1 t hd h4
      · omega
  · rename_i hd
    refine mixT_congr fun j hj hjd => ⟨fun h => h.resolve_right fun e => ?_, .inl⟩
    subst e; rw [ha] at hjd; exact hd hjd
theorem Inv.blk' (D : DR P X N ops aos an tr) (LT : ∀ (i : Nat) (ao : AO), aos[i]? = some ao → ∀ id ∈ (footO ao (tr i)).1 ++ (footO ao (tr i)).2, id < (tr i).hp.length) (I : Inv aos an tr N F0 ε0 w0 ds S F ε a w) (hi : ¬ S i) (ha : aos[i]? = some ao) (id : Nat) :
    (touch aos tr i id → mixH aos tr (fun j => S j ∨ j = i) aos.length id = (tr (i + 1)).hp.at id) ∧ (¬ touch aos tr i id → mixH aos tr (fun j => S j ∨ j = i) aos.length id = mixH aos tr S aos.length id) := by
  have hil : i < aos.length := (List.getElem?_eq_some_iff.1 ha).1
  constructor
  · intro ht
    rw [mixH_up (i := i + 1) (by omega) fun j h1 h2 h3 h4 => ?_]
    · simp only [mixH]
      rw [if_pos ⟨.inr rfl, ht⟩]
    · have h3 := h3.resolve_right (by omega)
      rcases h4 with ⟨b, hb, hm⟩ | ⟨h4, h5⟩
      · rcases ht with ⟨b', hb', hm'⟩ | ⟨h6, h7⟩
        · by_cases han : i ∈ an j
          · exact I.later hi han h3
          · exact clash_left (D.pair i j _ _ (by omega) hb' hb han).2.2.2 hm' (List.mem_append.2 (.inr hm))
        · obtain ⟨l, hl⟩ := I.wg j b h3 hb id hm
          rcases I.dom id l hl with h8 | ⟨k, k1, k2, k3, k4⟩
          · have := D.mono (i := 0) (j := i) (by omega) (by omega); omega
          · have : k = i := by
              rcases Nat.lt_or_ge k i with h5 | h5
              · have := D.mono (i := k + 1) (j := i) (by omega) (by omega); omega
              · rcases Nat.lt_or_ge i k with h6 | h6
                · have := D.mono (i := i + 1) (j := k) (by omega) (by omega); omega
                · omega
            subst this; exact hi k2
      · have hm := D.mono (i := i + 1) (j := j) (by omega) (by omega)
        rcases ht with ⟨b', hb', hm'⟩ | ⟨h6, h7⟩
        · have := LT i b' hb' id (List.mem_append.2 (.inr hm'))
          have := D.grow hil
          omega
        · omega
  · intro ht
    refine mixH_congr fun j hj hjd => ⟨fun h => h.resolve_right fun e => ?_, .inl⟩
    subst e; exact ht hjd

/-- One more operation runs. -/
theorem Inv.step (D : DR P X N ops aos an tr) (hX : Sound P X) (L : ∀ i, i ≤ aos.length → ∃ (F : Frz) (ε : Env) (a : Act) (w : World), WRel F ε (tr i).hp w ∧ TRel F ε (tr i).tm a.tmps ∧ N ≤ a.tmps.size)
    (I : Inv aos an tr N F0 ε0 w0 ds S F ε a w) (hi : ¬ S i) (ha : aos[i]? = some ao) (ho : ops[i]? = some o) (hd : ∀ j ∈ an i, S j) {K : Act → World → Prop} {Q : Exit → Act → World → Prop}
    (hK : ∀ F' ε' a' w', Inv aos an tr N F0 ε0 w0 ds (fun j => S j ∨ j = i) F' ε' a' w' → K a' w') :
    if Region.wanted o (yielded ops a.tmps) then o.wp P a w K Q ∨ (o.asks P a w ∧ LetsOut Q) else K (a.put o.dst undef) w := by
  have hil : i < aos.length := (List.getElem?_eq_some_iff.1 ha).1
  have LT := fun i ao ha => (D.lt L i ao ha).2.2
  obtain ⟨l1, l2, l3⟩ := D.lt L i ao ha
  have hchk := D.chk i o ao ho ha
  have hdst : o.dst = ao.dst := by simp only [chkO, Bool.and_eq_true, decide_eq_true_eq] at hchk; exact hchk.1.1.1
  have hdlt : ∀ d, ao.dst = some d → d < a.tmps.size := by
    intro d hd
    simp only [chkO, Bool.and_eq_true, decide_eq_true_eq] at hchk
    have := hchk.1.1.2
    rw [hd] at this
    have h1 : d < N := by simpa using this
    have := I.N; omega
  have htmp : ∀ t ∈ ao.looks, VRel F ε (look t (tr i).tm) (a.tmps.getD t undef) := fun t ht => by
    rw [← I.tmp D hi ha hd ht]; exact I.T t
  have hclo' : ∀ j, (S j ∨ j = i) → j < aos.length ∧ ∀ k ∈ an j, (S k ∨ k = i) := by
    rintro j (hj | rfl)
    · exact ⟨(I.clo j hj).1, fun k hk => .inl ((I.clo j hj).2 k hk)⟩
    · exact ⟨hil, fun k hk => .inl (hd k hk)⟩
  have hwanted : ∀ b, wanted (tr i) ao.guard = some b → Region.wanted o (yielded ops a.tmps) = b := by
    intro b hb
    refine wanted_rel (F := F) (ε := ε) (s := ⟨keepAll (tr i) ao.looks, []⟩) hchk ?_ (fun t => ?_) I.N
    · cases hg : ao.guard with
      | none => rw [hg] at hb; exact hb
      | some p =>
        obtain ⟨t, b'⟩ := p
        rw [hg] at hb
        simp only [wanted] at hb ⊢
        rw [look_keepAll _ _ _ (looks_guard hg)]
        exact hb
    · rcases look_keepAll_or (tr i) t ao.looks with ⟨h1, h2⟩ | h2
      · rw [h2]; exact htmp t h1
      · rw [h2]; exact .dead _
  rcases step_cases (D.step i ao ha) with ⟨hw, hs, hf⟩ | ⟨v, s1, hw, hop, hs, hf⟩
  · -- the guard says no
    rw [hwanted _ hw, if_neg (by simp)]
    have hno : ∀ id, ¬ touch aos tr i id := by
      rintro id (⟨b, hb, hm⟩ | ⟨h1, h2⟩)
      · rw [ha] at hb; cases hb
        rw [hf] at hm; cases hm
      · rw [hs, put_hp] at h2; omega
    have hmix : mixH aos tr (fun j => S j ∨ j = i) aos.length = mixH aos tr S aos.length := funext fun id => (I.blk' D LT hi ha id).2 (hno id)
    refine hK F ε _ w ⟨by rw [hmix]; exact I.P, fun t => ?_, by rw [put_size]; exact I.N, by rw [put_defers]; exact I.D, I.env, fun id l hl => ?_, hclo', fun j b hj hb id hid => ?_⟩
    · rw [I.tmp' D hi ha t, hdst, put_getD hdlt]
      split
      · rename_i hdt
        rw [hs, look_put, if_pos hdt]
        exact mk_tup (LRel.nil _ _)
      · exact I.T t
    · rcases I.dom id l hl with h1 | ⟨j, j1, j2, j3⟩
      · exact .inl h1
      · exact .inr ⟨j, j1, .inl j2, j3⟩
    · rcases hj with hj | rfl
      · exact I.wg j b hj hb id hid
      · rw [ha] at hb; cases hb
        rw [hf] at hid; cases hid
  · rw [hwanted _ hw, if_pos rfl]
    left
    rw [hf] at l3
    -- all that it looks at has a place
    have good : ∀ id ∈ (foot ao.op (tr i)).1 ++ (foot ao.op (tr i)).2, ∃ l, ε id = some l := by
      refine foot_good (G := fun id => ∃ l, ε id = some l) (fun x hx id hid => ?_) fun id B hg hz hB r hr => ?_
      · cases x with
        | t n => exact (htmp n (looks_of hx)).good id hid
        | c v =>
          have := D.con i ao ha v hx
          simp only [St.ev, this] at hid; cases hid
      · obtain ⟨l, hl⟩ := hg
        have hm := I.blk D hi ha hd hl (by rw [hf]; exact hz) (Heap.at_lt hB)
        rw [hB] at hm
        obtain ⟨l', _, hb⟩ := I.P.W.blk id B hm
        exact hb.good r hr
    let Z : Nat → Prop := fun id => id ∈ (foot ao.op (tr i)).1 ++ (foot ao.op (tr i)).2
    let s2 : St := ⟨keepAll (tr i) ao.looks, cutH (tr i).hp Z⟩
    have hcut : Cut Z (tr i).hp s2.hp := cutH_cut _ _
    obtain ⟨s2', r1, r2⟩ := opE_cut (s2 := s2) hop (fun x hx => by
      cases x with
      | c v => rfl
      | t n => exact look_keepAll _ _ _ (looks_of hx)) hcut (fun id hid => hid)
    let ρ : Nat → Option Nat := fun id => if id < (tr i).hp.length then some id else none
    let εr : Env := fun id => if id < (tr i).hp.length then ε id else none
    have hcar : Carry ρ ε εr := by
      intro x y l h1 h2
      simp only [ρ] at h1
      split at h1
      · rename_i hlt; cases h1; simp [εr, hlt, h2]
      · cases h1
    have hs2at : ∀ id B0, s2.hp.at id = some B0 → Z id ∧ (tr i).hp.at id = some B0 ∧ mixH aos tr S aos.length id = some B0 := by
      intro id B0 h
      have hz : Z id := Classical.byContradiction fun hn => by rw [hcut.out id hn] at h; cases h
      rw [hcut.inn id hz] at h
      obtain ⟨l, hl⟩ := good id hz
      exact ⟨hz, h, by rw [I.blk D hi ha hd hl (by rw [hf]; exact hz) (Heap.at_lt h)]; exact h⟩
    have W2 : WRel F εr s2.hp w := I.P.W.sub (R := fun x => x) (ρ := ρ) (fun id B0 h => by
      obtain ⟨h1, h2, h3⟩ := hs2at id B0 h
      refine ⟨B0, h3, (Blk.ren_id fun r hr => ?_).symm, ?_⟩
      · simp only [ρ]; rw [if_pos (l2 id B0 h2 r hr)]
      · simp only [εr]; rw [if_pos (Heap.at_lt h2)]) (fun _ _ _ _ _ _ h => h) hcar (fun id hid => by
      rw [hcut.len] at hid
      simp only [εr]; rw [if_neg (by omega)])
    have T2 : TRel F εr s2.tm a.tmps := by
      intro t
      rcases look_keepAll_or (tr i) t ao.looks with ⟨h1, h2⟩ | h2
      · show VRel F εr (look t (keepAll (tr i) ao.looks)) _
        rw [h2]
        have hlt : ∀ x ∈ (look t (tr i).tm).refs, x < (tr i).hp.length := by
          obtain ⟨F9, ε9, a9, w9, W9, T9, _⟩ := L i (by omega)
          intro x hx
          obtain ⟨l, hl⟩ := (T9 t).good x hx
          rcases Nat.lt_or_ge x (tr i).hp.length with h3 | h3
          · exact h3
          · rw [W9.dom x h3] at hl; cases hl
        have := (htmp t h1).ren hcar
        rw [ren_id fun x hx => by simp only [ρ]; rw [if_pos (hlt x hx)]] at this
        exact this
      · show VRel F εr (look t (keepAll (tr i) ao.looks)) _
        rw [h2]; exact .dead _
    have hcop : chkOp P o.op ao.op = true := by simp only [chkO, Bool.and_eq_true] at hchk; exact hchk.2
    refine op_sound hX hcop r1 W2 T2 K Q ?_
    rintro u w' ⟨F', ε', P1, V1⟩
    have hs1 : s1.hp = (tr (i + 1)).hp := by rw [hs, put_hp]
    rw [hs1] at r2
    let ε2 : Env := fun id => if (tr i).hp.length ≤ id ∧ id < (tr (i + 1)).hp.length then ε' id else ε id
    have hspan : ∀ id, (tr i).hp.length ≤ id → id < (tr (i + 1)).hp.length → ε id = none := by
      intro id h1 h2
      cases hl : ε id with
      | none => rfl
      | some l =>
        exfalso
        rcases I.dom id l hl with h8 | ⟨k, k1, k2, k3, k4⟩
        · have := D.mono (i := 0) (j := i) (by omega) (by omega); omega
        · have : k = i := by
            rcases Nat.lt_or_ge k i with h5 | h5
            · have := D.mono (i := k + 1) (j := i) (by omega) (by omega); omega
            · rcases Nat.lt_or_ge i k with h6 | h6
              · have := D.mono (i := i + 1) (j := k) (by omega) (by omega); omega
              · omega
          subst this; exact hi k2
    have hle : ε.le ε2 := by
      intro id l hl
      simp only [ε2]
      rw [if_neg]
      · exact hl
      · rintro ⟨h1, h2⟩; rw [hspan id h1 h2] at hl; cases hl
    have hcar2 : Carry some ε' ε2 := by
      intro x y l h1 h2
      cases h1
      simp only [ε2]
      split
      · exact h2
      · rename_i hn
        have hx : x < s2'.hp.length := by
          rcases Nat.lt_or_ge x s2'.hp.length with h3 | h3
          · exact h3
          · rw [P1.W.dom x h3] at h2; cases h2
        rw [r2.len] at hx
        have hx2 : x < (tr i).hp.length := by
          rcases Nat.lt_or_ge x (tr i).hp.length with h3 | h3
          · exact h3
          · exact (hn ⟨h3, hx⟩).elim
        have := P1.env x (by rw [hcut.len]; exact hx2)
        rw [this] at h2
        simp only [εr] at h2
        rw [if_pos hx2] at h2
        exact h2
    have PF : PostF F ε (mixH aos tr S aos.length) w F' ε2 (mixH aos tr (fun j => S j ∨ j = i) aos.length) w' := by
      refine Post.embed (R := fun x => x) (τ := some) I.P.W (fun id B0 h => ?_) P1 hle hcar2 fun id B hB => ?_
      · obtain ⟨h1, h2, h3⟩ := hs2at id B0 h
        exact ⟨B0, h3, by simp only [εr]; rw [if_pos (Heap.at_lt h2)]⟩
      · obtain ⟨b1, b2⟩ := I.blk' D LT hi ha id
        by_cases ht : touch aos tr i id
        · rw [b1 ht] at hB
          refine .inr ⟨id, B, ?_, (Blk.ren_id fun _ _ => rfl).symm, rfl⟩
          rw [r2.inn id ?_]
          · exact hB
          · rcases ht with ⟨b, hb, hm⟩ | ⟨h1, h2⟩
            · rw [ha] at hb; cases hb
              rw [hf] at hm
              exact .inl (List.mem_append.2 (.inr hm))
            · exact .inr h1
        · rw [b2 ht] at hB
          by_cases hz : ∃ B0, s2.hp.at id = some B0
          · obtain ⟨B0, h0⟩ := hz
            obtain ⟨h1, h2, h3⟩ := hs2at id B0 h0
            rw [hB] at h3; cases h3
            refine .inr ⟨id, B, ?_, (Blk.ren_id fun _ _ => rfl).symm, rfl⟩
            rw [r2.inn id (.inl h1), D.keepH hil ht]; exact h2
          · refine .inl ⟨hB, fun j B0 h0 e => hz ⟨B0, ?_⟩⟩
            have e' : j = id := e
            subst e'; exact h0
    refine hK F' ε2 _ w' ⟨I.P.trans PF, fun t => ?_, by rw [put_size]; exact I.N, by rw [put_defers]; exact I.D, fun id hid => ?_, fun id l hl => ?_, hclo', fun j b hj hb id hid => ?_⟩
    · rw [I.tmp' D hi ha t, hdst, put_getD hdlt]
      split
      · rename_i hdt
        rw [hs, look_put, if_pos hdt]
        have := V1.ren hcar2
        rw [ren_id fun _ _ => rfl] at this
        exact this
      · exact (I.T t).mono PF.le hle
    · have hm := D.mono (i := 0) (j := i) (by omega) (by omega)
      simp only [ε2]
      rw [if_neg (by omega)]
      exact I.env id hid
    · simp only [ε2] at hl
      split at hl
      · rename_i hsp; exact .inr ⟨i, hil, .inr rfl, hsp⟩
      · rcases I.dom id l hl with h1 | ⟨j, j1, j2, j3⟩
        · exact .inl h1
        · exact .inr ⟨j, j1, .inl j2, j3⟩
    · rcases hj with hj | rfl
      · obtain ⟨l, hl⟩ := I.wg j b hj hb id hid
        exact ⟨l, hle _ _ hl⟩
      · rw [ha] at hb; cases hb
        rw [hf] at hid
        obtain ⟨l, hl⟩ := good id (List.mem_append.2 (.inr hid))
        exact ⟨l, hle _ _ hl⟩
end
end

theorem filter_lt {l : List Nat} {p q : Nat → Bool} {i : Nat} (hi : i ∈ l) (hp : p i = true) (hq : q i = false) (hle : ∀ j, q j = true → p j = true) : (l.filter q).length < (l.filter p).length := by
  have base : ∀ l : List Nat, (l.filter q).length ≤ (l.filter p).length := by
    intro l
    induction l with
    | nil => exact Nat.le_refl _
    | cons x l ih =>
      simp only [List.filter_cons]
      by_cases h1 : q x = true
      · rw [if_pos h1, if_pos (hle x h1)]; simpa using ih
      · rw [if_neg h1]
        split
        · simp; omega
        · exact ih
  induction l with
  | nil => cases hi
  | cons x l ih =>
    simp only [List.filter_cons]
    rcases List.mem_cons.1 hi with h | h
    · subst h
      rw [if_neg (by simp [hq]), if_pos hp]
      have := base l
      simp; omega
    · have := ih h
      by_cases h1 : q x = true
      · rw [if_pos h1, if_pos (hle x h1)]; simpa using this
      · rw [if_neg h1]
        split
        · simp; omega
        · exact this
theorem draw_sound {P : Program} {X : CallSem} {F : Frz} {ε : Env} {w : World} {s s' : St} {a : Act} {N : Nat} {ops : Array Oper} {aos : List AO} {ps : List (Nat × Nat)} {id : Nat} (hX : Sound P X) (hm : P.follows .mixedOrders = true)
    (hc : chkD P N ops aos ps = true) (hr : runR X aos (some ps) s = some s') (W : WRel F ε s.hp w) (ht : TRel F ε s.tm a.tmps) (hN : N ≤ a.tmps.size) {Q : Exit → Act → World → Prop}
    (hQ : ∀ a' w' F' ε', Post F ε s.hp w F' ε' s'.hp w' → TRel F' ε' s'.tm a'.tmps → N ≤ a'.tmps.size → a'.defers = a.defers → Q .normal a' w') : (Code.region id ops true).wp P Q a w := by
  simp only [chkD, Bool.and_eq_true] at hc
  obtain ⟨⟨hcl, hcon⟩, hpairs⟩ := hc
  split at hpairs
  · rename_i anl hanl
    simp only [runR] at hr
    split at hr
    · rename_i s1 fs hlog
      split at hr
      · rename_i hapart
        cases hr
        obtain ⟨tr, t0, tn, tl, ts⟩ := trace hlog
        have hchkL : ∀ {l : List Oper} {r : List AO}, chkL P N ops l r = true → l.length = r.length ∧ ∀ (i : Nat) o ao, l[i]? = some o → r[i]? = some ao → chkO P N ops o ao = true := by
          intro l
          induction l with
          | nil =>
            intro r h
            cases r with
            | nil => exact ⟨rfl, fun i o ao h => by simp at h⟩
            | cons => simp [chkL] at h
          | cons o l ih =>
            intro r h
            cases r with
            | nil => simp [chkL] at h
            | cons ao r =>
              simp only [chkL, Bool.and_eq_true] at h
              obtain ⟨h1, h2⟩ := ih h.2
              refine ⟨by simp [h1], fun i o' ao' ho ha => ?_⟩
              cases i with
              | zero => simp at ho ha; subst ho; subst ha; exact h.1
              | succ i => exact h2 i o' ao' (by simpa using ho) (by simpa using ha)
        obtain ⟨hlen, hck⟩ := hchkL hcl
        have hsz : ops.size = aos.length := by simpa using hlen
        obtain ⟨_, anlen, anspec⟩ := ancs_spec hanl
        simp only [List.length_nil, Nat.zero_add] at anlen anspec
        let an : Nat → List Nat := fun i => (List.range aos.length).filter fun j => (anl.getD i 0).testBit j
        have D : DR P X N ops aos an tr := by
          refine ⟨fun i o ao ho ha => hck i o ao (by simpa using ho) ha, hsz, fun i ao ha => (ts i ao ha).1, fun i ao ha v hv => ?_, fun i o ho => ?_, fun i j x y hij hx hy hn => ?_⟩
          · have h1 := List.all_eq_true.1 hcon ao (List.mem_of_getElem? ha)
            have h2 := List.all_eq_true.1 h1 _ hv
            simpa using h2
          · obtain ⟨h1, h2⟩ := anspec i o (by simpa using ho)
            have hi : i < aos.length := by rw [← hsz]; exact (Array.getElem?_eq_some_iff.1 ho).1
            refine ⟨h1, fun j => ?_⟩
            have : anl.getD i 0 = orAll anl (deps o) := by simp only [List.getD_eq_getElem?_getD, h2, Option.getD_some]
            simp only [an, List.mem_filter, List.mem_range, this, orAll_bit]
            constructor
            · rintro ⟨hj, h | ⟨e, he, h⟩⟩
              · exact .inl h
              · exact .inr ⟨e, he, hj, h⟩
            · rintro (h | ⟨e, he, hj, h⟩)
              · have := h1 j h; exact ⟨by omega, .inl h⟩
              · exact ⟨hj, .inr ⟨e, he, h⟩⟩
          · have hz : ∀ {k : Nat} {z : AO}, aos[k]? = some z → (z, k) ∈ aos.zipIdx := by
              intro k z hk
              have : aos.zipIdx[k]? = some (z, k) := by rw [List.getElem?_zipIdx, hk]; simp
              exact List.mem_of_getElem? this
            have h1 := List.all_eq_true.1 hpairs _ (hz hy)
            have h2 := List.all_eq_true.1 h1 _ (hz hx)
            simp only at h2
            rw [if_pos hij, Bool.or_eq_true] at h2
            have h3 := h2.resolve_left fun h => hn (by
              simp only [an, List.mem_filter, List.mem_range]
              exact ⟨(List.getElem?_eq_some_iff.1 hx).1, h⟩)
            simp only [chkPair, Bool.and_eq_true, Bool.or_eq_true] at h3
            obtain ⟨⟨⟨g1, g2⟩, g3⟩, g4⟩ := h3
            refine ⟨g1, g2, fun d hd => ?_, ?_⟩
            · rw [hd] at g3; simpa using g3
            · rcases g4 with g4 | g4
              · exact quiet_clash g4
              · simp only [hasP, List.any_eq_true, Bool.and_eq_true, beq_iff_eq] at g4
                obtain ⟨⟨p1, p2⟩, hp, rfl, rfl⟩ := g4
                have := List.all_eq_true.1 hapart _ hp
                simp only [List.getD_eq_getElem?_getD, (ts _ x hx).2, (ts _ y hy).2, Option.getD_some, Bool.not_eq_true'] at this
                exact this
        subst t0
        have L := D.lex hX W ht hN
        refine wp_region_any hm ?_
        -- the walk over all orders
        have walk : ∀ (fuel : Nat) (listed : Array Bool) (F1 : Frz) (ε1 : Env) (a1 : Act) (w1 : World), listed.size = aos.length → ((List.range aos.length).filter fun i => !listed.getD i false).length ≤ fuel →
            Inv aos an tr N F ε w a.defers (fun i => listed.getD i false = true) F1 ε1 a1 w1 → wpAny P .any ops Q fuel listed a1 w1 := by
          have fin : ∀ (listed : Array Bool) (F1 : Frz) (ε1 : Env) (a1 : Act) (w1 : World), listed.size = aos.length → Region.ready .any ops listed = [] → Inv aos an tr N F ε w a.defers (fun i => listed.getD i false = true) F1 ε1 a1 w1 → Q .normal a1 w1 := by
            intro listed F1 ε1 a1 w1 hls hready I
            have all : ∀ n, ∀ i, i < n → i < aos.length → listed.getD i false = true := by
              intro n
              induction n with
              | zero => intro i h; omega
              | succ n ih =>
                intro i h hia
                refine Classical.byContradiction fun hn => ?_
                have ho : ops[i]? = some (ops[i]'(by omega)) := by simp [show i < ops.size by omega]
                have hmem : i ∈ Region.ready .any ops listed := by
                  rw [mem_ready]
                  have h1 : listed[i]? = some listed[i] := by simp [show i < listed.size by omega]
                  have h2 : listed.getD i false = listed[i] := by rw [Array.getD_eq_getD_getElem?, h1]; rfl
                  have h3 : listed.getD i true = listed[i] := by rw [Array.getD_eq_getD_getElem?, h1]; rfl
                  refine ⟨by rw [h3, ← h2]; simpa using hn, _, ho, fun e he hb => ?_⟩
                  have hd : e.on ∈ deps ops[i] := by
                    simp only [deps, List.mem_map, List.mem_filter]
                    exact ⟨e, ⟨by simpa using he, hb⟩, rfl⟩
                  have hlt := (D.anc i _ ho).1 _ hd
                  exact ih e.on (by omega) (by omega)
                rw [hready] at hmem; cases hmem
            have allS : ∀ i, i < aos.length → listed.getD i false = true := fun i hi => all (i + 1) i (by omega) hi
            have hH : mixH aos tr (fun i => listed.getD i false = true) aos.length = (tr aos.length).hp.at := funext fun id => D.mixH_all (Nat.le_refl _) fun j hj _ => allS j hj
            have hT : ∀ t, mixT aos tr (fun i => listed.getD i false = true) aos.length t = look t (tr aos.length).tm := fun t => D.mixT_all (Nat.le_refl _) fun j hj _ => allS j hj
            have hlenm := D.mono (i := 0) (j := aos.length) (by omega) (Nat.le_refl _)
            refine hQ a1 w1 F1 ε1 ?_ (fun t => ?_) I.N I.D
            · rw [← tn]
              have := I.P
              rw [hH] at this
              refine this.post (fun id hid => I.env id hid) hlenm fun id hid => ?_
              cases hl : ε1 id with
              | none => rfl
              | some l =>
                exfalso
                rcases I.dom id l hl with h1 | ⟨j, j1, j2, j3, j4⟩
                · omega
                · have := D.mono (i := j + 1) (j := aos.length) (by omega) (Nat.le_refl _); omega
            · rw [← tn, ← hT t]; exact I.T t
          intro fuel
          induction fuel with
          | zero =>
            intro listed F1 ε1 a1 w1 hls hcnt I
            have hready : Region.ready .any ops listed = [] := by
              cases hr : Region.ready .any ops listed with
              | nil => rfl
              | cons i l =>
                exfalso
                have hmem : i ∈ Region.ready .any ops listed := by rw [hr]; simp
                obtain ⟨h1, o, h2, _⟩ := mem_ready.1 hmem
                have hlt : i < aos.length := by rw [← hsz]; exact (Array.getElem?_eq_some_iff.1 h2).1
                have h3 : listed.getD i false = false := by
                  have h4 : listed[i]? = some listed[i] := by simp [show i < listed.size by omega]
                  rw [Array.getD_eq_getD_getElem?, h4] at h1 ⊢; exact h1
                have : i ∈ (List.range aos.length).filter fun i => !listed.getD i false := by
                  rw [List.mem_filter]; exact ⟨by simpa using hlt, by rw [h3]; rfl⟩
                have := List.length_pos_of_mem this
                omega
            exact ⟨hready, fin listed F1 ε1 a1 w1 hls hready I⟩
          | succ fuel ih =>
            intro listed F1 ε1 a1 w1 hls hcnt I
            refine ⟨fun hready => fin listed F1 ε1 a1 w1 hls hready I, fun i hmem => ?_⟩
            obtain ⟨h1, o, h2, h3⟩ := mem_ready.1 hmem
            have hlt : i < aos.length := by rw [← hsz]; exact (Array.getElem?_eq_some_iff.1 h2).1
            have hfalse : listed.getD i false = false := by
              have h4 : listed[i]? = some listed[i] := by simp [show i < listed.size by omega]
              rw [Array.getD_eq_getD_getElem?, h4] at h1 ⊢; exact h1
            have ha : aos[i]? = some aos[i] := by simp [hlt]
            have hdeps : ∀ e ∈ deps o, listed.getD e false = true := by
              intro e he
              simp only [deps, List.mem_map, List.mem_filter] at he
              obtain ⟨ed, ⟨he1, he2⟩, rfl⟩ := he
              exact h3 ed (by simpa using he1) he2
            have hd : ∀ j ∈ an i, listed.getD j false = true := by
              intro j hj
              rcases ((D.anc i o h2).2 j).1 hj with h4 | ⟨e, he, h4⟩
              · exact hdeps j h4
              · exact (I.clo e (hdeps e he)).2 j h4
            unfold wpOp
            rw [h2]
            refine I.step D hX L (by rw [hfalse]; simp) ha h2 hd fun F' ε' a' w' I' => ?_
            refine ih (listed.setIfInBounds i true) F' ε' a' w' (by simpa using hls) ?_ ?_
            · have : ((List.range aos.length).filter fun j => !(listed.setIfInBounds i true).getD j false).length < ((List.range aos.length).filter fun j => !listed.getD j false).length := by
                refine filter_lt (i := i) (by simpa using hlt) (by rw [hfalse]; rfl) ?_ fun j hj => ?_
                · have : (listed.setIfInBounds i true).getD i false = true := by simp [show i < listed.size by omega]
                  rw [this]; rfl
                · by_cases hij : i = j
                  · subst hij
                    have : (listed.setIfInBounds i true).getD i false = true := by simp [show i < listed.size by omega]
                    rw [this] at hj; cases hj
                  · rwa [getD_set_ne false hij] at hj
              omega
            · have hS : (fun j => listed.getD j false = true ∨ j = i) = fun j => (listed.setIfInBounds i true).getD j false = true := by
                funext j
                by_cases hij : i = j
                · subst hij
                  have : (listed.setIfInBounds i true).getD i false = true := by simp [show i < listed.size by omega]
                  simp only [this, or_true]
                · rw [getD_set_ne false hij]
                  simp only [eq_iff_iff, or_iff_left_iff_imp]
                  intro e; exact (hij e.symm).elim
              rw [hS] at I'
              exact I'
        have hfalse : ∀ j, (Array.replicate ops.size false).getD j false = false := by
          intro j
          rw [Array.getD_eq_getD_getElem?, Array.getElem?_replicate]
          split <;> rfl
        refine walk ops.size _ F ε a { w with drawn := w.drawn + 1 } (by simp [hsz]) ?_ ?_
        · refine Nat.le_trans (List.length_filter_le _ _) ?_
          simp [hsz]
        · have hS : (fun j => (Array.replicate ops.size false).getD j false = true) = fun _ => False := by
            funext j; rw [hfalse j]; simp
          rw [hS]
          have hmH : ∀ n, mixH aos tr (fun _ => False) n = (tr 0).hp.at := by
            intro n
            induction n with
            | zero => rfl
            | succ n ih => funext id; simp only [mixH]; rw [if_neg (fun h => h.1), ih]
          have hmT : ∀ n t, mixT aos tr (fun _ => False) n t = look t (tr 0).tm := by
            intro n t
            induction n with
            | zero => rfl
            | succ n ih => simp only [mixT]; rw [if_neg (fun h => h.1), ih]
          refine ⟨?_, fun t => by rw [hmT]; exact ht t, hN, rfl, fun _ _ => rfl, fun id l hl => .inl ?_, fun j h => h.elim, fun j ao h => h.elim⟩
          · rw [hmH]
            exact ⟨Frz.le_refl _, fun _ _ h => .inl h, (W.drew _).wf, rfl, rfl, rfl, Nat.le_refl _, fun _ _ _ => rfl, fun _ _ h => h, fun _ => rfl⟩
          · rcases Nat.lt_or_ge id (tr 0).hp.length with h1 | h1
            · exact h1
            · rw [W.dom id h1] at hl; cases hl
      · cases hr
    · cases hr
  · cases hpairs
end Go.Ab
