/- Code. -/
import Derived.Test.YtgjconibaflaaaaGreatDoorAbDraw2
import Derived.LoopN
import Derived.Scope
namespace Go.Ab
open Go
set_option linter.unusedVariables false
set_option linter.unusedSimpArgs false

/-- As Post, of the first m names alone. -/
structure PostM (m : Nat) (F : Frz) (ε : Env) (h : Heap) (w : World) (F' : Frz) (ε' : Env) (h' : Heap) (w' : World) : Prop where
  grow : FGrow F F' ε h w
  env : ∀ id, id < m → ε' id = ε id
  len : m ≤ h'.length
  W : WRel F' ε' h' w'
  fr : Fr ε h w w'
  own : OwnSub ε h w ε' h'
section
variable {m : Nat} {F F1 F2 : Frz} {ε ε1 ε2 : Env} {h h1 h2 : Heap} {w w1 w2 : World}
theorem FGrow.trans (a : FGrow F F1 ε h w) (o : OwnSub ε h w ε1 h1) (hs : w.heap.size ≤ w1.heap.size) (b : FGrow F1 F2 ε1 h1 w1) : FGrow F F2 ε h w :=
  ⟨Frz.le_trans a.1 b.1, fun c o' hc => by
    rcases b.2 c o' hc with g | g | g
    · exact a.2 c o' g
    · rcases Nat.lt_or_ge c w.heap.size with h2 | h2
      · exact .inr (.inl (o c h2 g))
      · exact .inr (.inr h2)
    · exact .inr (.inr (Nat.le_trans hs g))⟩
theorem Post.toM (p : Post F ε h w F1 ε1 h1 w1) (hm : m ≤ h.length) : PostM m F ε h w F1 ε1 h1 w1 := ⟨p.grow, fun id hid => p.env id (by omega), Nat.le_trans hm p.len, p.W, p.fr, p.own⟩
theorem PostM.trans (a : PostM m F ε h w F1 ε1 h1 w1) (b : PostM m F1 ε1 h1 w1 F2 ε2 h2 w2) : PostM m F ε h w F2 ε2 h2 w2 :=
  ⟨a.grow.trans a.own a.fr.size b.grow, fun id hid => (b.env id hid).trans (a.env id hid), b.len, b.W, a.fr.trans a.own b.fr, a.own.trans a.fr.size b.own⟩
theorem PostM.refl (W : WRel F ε h w) (hm : m ≤ h.length) : PostM m F ε h w F ε h w := (Post.refl W).toM hm
theorem PostM.post (p : PostM h.length F ε h w F1 ε1 h1 w1) : Post F ε h w F1 ε1 h1 w1 := ⟨p.grow, p.env, p.len, p.W, p.fr, p.own⟩

/-- Some blocks alone, by their places in a list. -/
theorem pack_rel (W : WRel F ε h w) {R : List Nat} (Rn : R.Nodup) (Rl : ∀ x ∈ R, x < h.length) :
    WRel F (fun i => (R[i]?).bind ε) (pack h R (pos R)) w ∧ Carry (pos R) ε (fun i => (R[i]?).bind ε) ∧ (∀ b, Own (fun i => (R[i]?).bind ε) (pack h R (pos R)) b → Own ε h b) := by
  have hcar : Carry (pos R) ε (fun i => (R[i]?).bind ε) := by
    intro id i l h1 h2
    have := pos_some h1
    simp [this, h2]
  have hlt : ∀ i B0, Heap.at (pack h R (pos R)) i = some B0 → i < R.length := by
    intro i B0 hi
    have := Heap.at_lt hi
    rwa [pack_length] at this
  have hsub : ∀ i B0, Heap.at (pack h R (pos R)) i = some B0 → ∃ B, h.at (R.getD i 0) = some B ∧ B0 = B.ren (pos R) ∧ (R[i]?).bind ε = ε (R.getD i 0) := by
    intro i B0 hi
    have hil := hlt i B0 hi
    rw [pack_at] at hi
    have hg : R[i]? = some R[i] := by simp [hil]
    rw [hg] at hi
    simp only [Option.bind_some, Option.map_eq_some_iff] at hi
    obtain ⟨B, h1, h2⟩ := hi
    refine ⟨B, by simpa [List.getD_eq_getElem?_getD, hg] using h1, h2.symm, by simp [hg, List.getD_eq_getElem?_getD]⟩
  refine ⟨W.wf.sub (R := fun i => R.getD i 0) hsub (fun i j B B' hi hj hij => ?_) hcar (fun i hi => ?_), hcar, ?_⟩
  · have h1 := hlt i B hi
    have h2 := hlt j B' hj
    simp only [List.getD_eq_getElem?_getD, List.getElem?_eq_getElem h1, List.getElem?_eq_getElem h2, Option.getD_some] at hij
    exact (List.getElem?_inj h1 Rn).1 (by rw [List.getElem?_eq_getElem h1, List.getElem?_eq_getElem h2, hij])
  · rw [pack_length] at hi
    simp [List.getElem?_eq_none hi]
  · rintro b ⟨i, B0, l, a1, a2, a3⟩
    obtain ⟨B, b1, b2, b3⟩ := hsub i B0 a1
    exact ⟨_, B, l, b1, b3 ▸ a2, a3⟩
theorem upto_range : ∀ m, upto m = List.range m
  | 0 => rfl
  | m + 1 => by rw [upto, upto_range m, List.range_succ]
theorem live_spec (m : Nat) (h : Heap) (roots : List Nat) (hm : m ≤ h.length) : (live m h roots).Nodup ∧ (∀ x ∈ live m h roots, x < h.length) := by
  unfold live
  have := reach_spec h 1000 (refsB (h.take m) ++ roots) (upto m) (by rw [upto_range]; exact List.nodup_range) (by rw [upto_range]; intro x hx; have := List.mem_range.1 hx; omega)
  exact ⟨this.1, this.2.1⟩
theorem reach_prefix (h : Heap) : ∀ (n : Nat) (todo seen : List Nat), ∃ r, reach h n todo seen = seen ++ r
  | 0, todo, seen => ⟨[], by simp [reach]⟩
  | n + 1, [], seen => ⟨[], by simp [reach]⟩
  | n + 1, id :: todo, seen => by
    simp only [reach]
    split
    · exact reach_prefix h n todo seen
    · split
      · rename_i b _
        obtain ⟨r, hr⟩ := reach_prefix h n (b.refs ++ todo) (seen ++ [id])
        exact ⟨[id] ++ r, by rw [hr, List.append_assoc]⟩
      · exact reach_prefix h n todo seen
theorem live_get (m : Nat) (h : Heap) (roots : List Nat) (i : Nat) (hi : i < m) : (live m h roots)[i]? = some i := by
  unfold live
  obtain ⟨r, hr⟩ := reach_prefix h 1000 (refsB (h.take m) ++ roots) (upto m)
  rw [hr, upto_range, List.getElem?_append_left (by simpa using hi)]
  simp [hi]
theorem live_len (m : Nat) (h : Heap) (roots : List Nat) : m ≤ (live m h roots).length := by
  unfold live
  obtain ⟨r, hr⟩ := reach_prefix h 1000 (refsB (h.take m) ++ roots) (upto m)
  rw [hr, upto_range]; simp
theorem look_renT (ρ : Nat → Option Nat) (t : Nat) : ∀ l, look t (renT ρ l) = (look t l).ren ρ
  | [] => rfl
  | (u, v) :: l => by
    simp only [renT, look]
    split
    · rfl
    · exact look_renT ρ t l
theorem norm_rel {s : St} {tmps : Array Value} (W : WRel F ε s.hp w) (ht : TRel F ε s.tm tmps) (hm : m ≤ s.hp.length) :
    ∃ δ, PostM m F ε s.hp w F δ (norm m s).hp w ∧ TRel F δ (norm m s).tm tmps := by
  obtain ⟨r1, r2⟩ := live_spec m s.hp (refsT s.tm) hm
  obtain ⟨a1, a2, a3⟩ := pack_rel W r1 r2
  refine ⟨_, ⟨FGrow.refl _ _ _ _, fun id hid => ?_, ?_, a1, Fr.refl _ _ _, fun b _ ho => a3 b ho⟩, fun t => ?_⟩
  · rw [live_get m s.hp _ id hid]; rfl
  · show m ≤ (pack s.hp _ _).length
    rw [pack_length]; exact live_len _ _ _
  · show VRel F _ (look t (renT _ s.tm)) _
    rw [look_renT]
    exact (ht t).ren a2
theorem mat_rel {s : St} {tmps : Array Value} (W : WRel F ε s.hp w) (ht : TRel F ε s.tm tmps) (hm : m ≤ s.hp.length) (t : Nat) :
    ∃ δ, PostM m F ε s.hp w F δ (mat1 s t).hp w ∧ TRel F δ (mat1 s t).tm tmps := by
  unfold mat1
  split
  · rename_i k hl
    have hv := ht t
    rw [hl] at hv
    generalize hu : tmps.getD t undef = u at hv
    cases hv with
    | sl0 _ ad =>
      obtain ⟨δ, l, h1, h2, h3, h4, h5, h6, h7, h8, h9⟩ := W.nameV k (.frows k []) (.inl rfl)
      refine ⟨δ, ⟨FGrow.refl _ _ _ _, fun id hid => h7 id (by omega), by simp; omega, h8, Fr.refl _ _ _, fun b _ ho => h9 b ho⟩, fun t' => ?_⟩
      rw [look_cons]
      split
      · rename_i e; subst e
        rw [hu]
        have := VRel.vec (F := F) (ε := δ) (l := l) (a := ad) h2 (by unfold SlAt; rw [h3]; exact h5)
        rw [h4, h5] at this
        exact this
      · exact (ht t').mono (Frz.le_refl _) h1
  · exact ⟨ε, .refl W hm, ht⟩
theorem mats_rel {tmps : Array Value} : ∀ (l : List Nat) {s : St} {ε : Env}, WRel F ε s.hp w → TRel F ε s.tm tmps → m ≤ s.hp.length →
    ∃ δ, PostM m F ε s.hp w F δ (mats l s).hp w ∧ TRel F δ (mats l s).tm tmps
  | [], s, ε, W, ht, hm => ⟨ε, .refl W hm, ht⟩
  | t :: l, s, ε, W, ht, hm => by
    obtain ⟨δ, p, q⟩ := mat_rel W ht hm t
    obtain ⟨δ', p', q'⟩ := mats_rel l p.W q p.len
    exact ⟨δ', p.trans p', q'⟩
theorem look_keep (s : St) (t : Nat) : ∀ ks : List Nat, look t (s.keep ks).tm = look t s.tm ∨ look t (s.keep ks).tm = .dead
  | [] => .inr rfl
  | k :: ks => by
    simp only [St.keep, List.map_cons, look]
    split
    · rename_i e; subst e; exact .inl rfl
    · exact look_keep s t ks
theorem keep_rel {s : St} {tmps : Array Value} (ht : TRel F ε s.tm tmps) (ks : List Nat) : TRel F ε (s.keep ks).tm tmps := by
  intro t
  rcases look_keep s t ks with h | h
  · rw [h]; exact ht t
  · rw [h]; exact .dead _
end

/-! ### Is the code the model's? -/
mutual
def chkC (P : Program) (N : Nat) : AC → Code → Bool
  | .skip, .skip => true
  | .skip, .label _ => true
  | .region ops pairs _, .region _ os draw => match pairs with
    | none => !draw && chkL P N os os.toList ops
    | some ps => draw && chkD P N os ops ps
  | .seq a b, .seq x y => chkC P N a x && chkC P N b y
  | .cond c a b, .cond x y z => chkX x c && chkC P N a y && chkC P N b z
  | .block i a, .block j x => i == j && chkC P N a x
  | .loop _ _ a, .loop x => chkC P N a x
  | .exit i, .exit j => i == j
  | .ret, .ret => true
  | .goto i, .goto j => i == j
  | .scope rests a, .scope x => chkC P N a x && chkRests P N x rests
  | _, _ => false
def chkRests (P : Program) (N : Nat) (x : Code) : List (Nat × AC) → Bool
  | [] => true
  | (l, c) :: r => (match findLabel x l with | some y => chkC P N c y | none => false) && chkRests P N x r
end
def exRel : Ex → Exit → Prop
  | .normal, .normal => True
  | .exit i, .exit j => i = j
  | .ret, .ret => True
  | .goto i, .goto j => i = j
  | _, _ => False
theorem restOf_chk {P : Program} {N : Nat} {x : Code} {l : Nat} : ∀ {rests : List (Nat × AC)} {c : AC}, chkRests P N x rests = true → restOf l rests = some c → ∃ y, findLabel x l = some y ∧ chkC P N c y = true
  | [], c, _, h => by cases h
  | (k, d) :: r, c, hc, h => by
    simp only [chkRests, Bool.and_eq_true] at hc
    simp only [restOf] at h
    split at h
    · rename_i e; subst e; cases h
      obtain ⟨h1, h2⟩ := hc
      split at h1
      · exact ⟨_, by assumption, h1⟩
      · cases h1
    · exact restOf_chk hc.2 h
/-- Within a scope. -/
def InScope (P : Program) (c c2 : Code) (Q : Exit → Act → World → Prop) (a : Act) (w : World) : Prop :=
  ∀ (b : Frame) (k : List Item) (cs : List Frame), ∃ e a' w', Q e a' w' ∧ Arrives P (lone (b.at a (.code c2 :: .inScope c :: k)) cs w) b k cs e a' w'
theorem inScope_of {P : Program} {c c2 : Code} {Q : Exit → Act → World → Prop} {a : Act} {w : World}
    (h : c2.wp P (fun e a' w' => match e with
      | .goto l => match findLabel c l with | some rest => InScope P c rest Q a' w' | none => Q (.goto l) a' w'
      | e => Q e a' w') a w) : InScope P c c2 Q a w := by
  intro b k cs
  obtain ⟨e, a₁, w₁, hq, harr⟩ := h b (.inScope c :: k) cs
  cases e with
  | normal => exact ⟨.normal, a₁, w₁, hq, Steps.trans harr (.one step_inScope)⟩
  | exit id => exact ⟨.exit id, a₁, w₁, hq, fun k' hk => harr k' (by simp [exitTo, hk])⟩
  | goto l' =>
    simp only at hq
    split at hq
    · rename_i rest hf
      obtain ⟨e₂, a₂, w₂, hq₂, harr₂⟩ := hq b k cs
      exact ⟨e₂, a₂, w₂, hq₂, .of_steps (harr _ (by simp [gotoIn, hf])) harr₂⟩
    · rename_i hf
      exact ⟨.goto l', a₁, w₁, hq, fun k' hk => harr k' (by simp [gotoIn, hf, hk])⟩
  | ret => exact ⟨_, a₁, w₁, hq, harr⟩
  | panic ch => exact ⟨_, a₁, w₁, hq, harr⟩
  | outgrown => exact ⟨_, a₁, w₁, hq, harr⟩
theorem wp_scope_in {P : Program} {c : Code} {Q : Exit → Act → World → Prop} {a : Act} {w : World} (h : InScope P c c Q a w) : (Code.scope c).wp P Q a w := by
  intro b k cs
  obtain ⟨e, a₁, w₁, hq, harr⟩ := h b k cs
  exact ⟨e, a₁, w₁, hq, .of_steps (.one step_scope) harr⟩

/-- How code ends. -/
def EndP (m N : Nat) (F : Frz) (ε : Env) (h : Heap) (w : World) (ds : List Deferred) (ex : Ex) (s' : St) : Exit → Act → World → Prop := fun e a' w' =>
  exRel ex e ∧ ∃ F' ε', PostM m F ε h w F' ε' s'.hp w' ∧ TRel F' ε' s'.tm a'.tmps ∧ N ≤ a'.tmps.size ∧ a'.defers = ds

section
variable {P : Program} {X : CallSem} {m N : Nat}
theorem EndP.next {F F1 : Frz} {ε ε1 : Env} {h h1 : Heap} {w w1 : World} {ds} {ex : Ex} {s' : St} (p : PostM m F ε h w F1 ε1 h1 w1) {e : Exit} {a' : Act} {w' : World} (q : EndP m N F1 ε1 h1 w1 ds ex s' e a' w') : EndP m N F ε h w ds ex s' e a' w' := by
  obtain ⟨hq, F', ε', p', q', r', t'⟩ := q
  exact ⟨hq, F', ε', p.trans p', q', r', t'⟩
theorem code_sound (hX : Sound P X) (hm : P.follows .mixedOrders = true) : ∀ (n : Nat) {ac : AC} {c : Code} {s : St} {ex : Ex} {s' : St} {F : Frz} {ε : Env} {a : Act} {w : World}, exec X m n ac s = some (ex, s') → chkC P N ac c = true → m ≤ s.hp.length →
    WRel F ε s.hp w → TRel F ε s.tm a.tmps → N ≤ a.tmps.size → c.wp P (EndP m N F ε s.hp w a.defers ex s') a w := by
  intro n
  induction n with
  | zero => intro ac c s ex s' F ε a w hr; simp [exec] at hr
  | succ n ih =>
    intro ac c s ex s' F ε a w hr hc hms W ht hN
    have seqCase : ∀ {x : AC} {c1 : Code} {K : Act → World → Prop} {Q : Exit → Act → World → Prop} {r : Option (Ex × St)} , True := fun {_ _ _ _ _} => trivial
    cases ac with
    | skip =>
      simp only [exec, Option.some.injEq, Prod.mk.injEq] at hr
      obtain ⟨rfl, rfl⟩ := hr
      cases c <;> simp only [chkC] at hc <;> first | (cases hc; done) | skip
      · exact wp_skip ⟨trivial, F, ε, .refl W hms, ht, hN, rfl⟩
      · exact wp_label ⟨trivial, F, ε, .refl W hms, ht, hN, rfl⟩
    | exit i =>
      simp only [exec, Option.some.injEq, Prod.mk.injEq] at hr
      obtain ⟨rfl, rfl⟩ := hr
      cases c <;> simp only [chkC] at hc <;> first | (cases hc; done) | skip
      exact wp_exit ⟨by simpa [exRel] using hc, F, ε, .refl W hms, ht, hN, rfl⟩
    | ret =>
      simp only [exec, Option.some.injEq, Prod.mk.injEq] at hr
      obtain ⟨rfl, rfl⟩ := hr
      cases c <;> simp only [chkC] at hc <;> first | (cases hc; done) | skip
      exact wp_ret ⟨trivial, F, ε, .refl W hms, ht, hN, rfl⟩
    | goto i =>
      simp only [exec, Option.some.injEq, Prod.mk.injEq] at hr
      obtain ⟨rfl, rfl⟩ := hr
      cases c <;> simp only [chkC] at hc <;> first | (cases hc; done) | skip
      exact wp_goto ⟨by simpa [exRel] using hc, F, ε, .refl W hms, ht, hN, rfl⟩
    | region ops pairs keep =>
      simp only [exec] at hr
      split at hr
      · rename_i s1 h1
        simp only [Option.some.injEq, Prod.mk.injEq] at hr
        obtain ⟨rfl, rfl⟩ := hr
        have fin : ∀ a' w' F' ε', Post F ε s.hp w F' ε' s1.hp w' → TRel F' ε' s1.tm a'.tmps → N ≤ a'.tmps.size → a'.defers = a.defers → EndP m N F ε s.hp w a.defers .normal (s1.keep keep) .normal a' w' :=
          fun a' w' F' ε' p q r t => ⟨trivial, F', ε', p.toM hms, keep_rel q keep, r, t⟩
        cases c <;> simp only [chkC] at hc <;> first | (cases hc; done) | skip
        rename_i id os draw
        cases pairs with
        | none =>
          simp only [Bool.and_eq_true, Bool.not_eq_true'] at hc
          obtain ⟨rfl, hc⟩ := hc
          exact wp_region_list (list_sound hX hc (runR_runOps h1) W ht hN fin)
        | some ps =>
          simp only [Bool.and_eq_true] at hc
          obtain ⟨rfl, hc⟩ := hc
          exact draw_sound hX hm hc h1 W ht hN fin
      · cases hr
    | seq x y =>
      cases c <;> simp only [chkC] at hc <;> first | (cases hc; done) | skip
      simp only [Bool.and_eq_true] at hc
      simp only [exec] at hr
      refine wp_seq ?_
      split at hr
      · rename_i s1 h1
        refine wp_mono (ih h1 hc.1 hms W ht hN) fun e a1 w1 q => ?_
        obtain ⟨hq, F', ε', p', q', r', t'⟩ := q
        cases e <;> simp only [exRel] at hq
        rw [← t']
        refine wp_mono (ih hr hc.2 p'.len p'.W q' r') fun e a2 w2 q => q.next p'
      · rename_i h1
        refine wp_mono (ih hr hc.1 hms W ht hN) fun e a1 w1 q => ?_
        have hex : ex ≠ .normal := fun he => h1 _ (by rw [hr, he])
        cases e with
        | normal => obtain ⟨hq, _⟩ := q; cases ex <;> first | exact (hex rfl).elim | cases hq
        | _ => exact q
    | cond x y z =>
      cases c <;> simp only [chkC] at hc <;> first | (cases hc; done) | skip
      simp only [Bool.and_eq_true] at hc
      simp only [exec] at hr
      split at hr
      · rename_i t hx
        have := ev_rel (s := s) hc.1.1 ht
        rw [hx] at this
        refine wp_cond (rel_bool this) ?_
        cases t
        · exact ih hr hc.2 hms W ht hN
        · exact ih hr hc.1.2 hms W ht hN
      · cases hr
    | block i x =>
      cases c <;> simp only [chkC] at hc <;> first | (cases hc; done) | skip
      simp only [Bool.and_eq_true, beq_iff_eq] at hc
      obtain ⟨rfl, hc⟩ := hc
      simp only [exec] at hr
      refine wp_block ?_
      split at hr
      · rename_i j s1 h1
        refine wp_mono (ih h1 hc hms W ht hN) fun e a1 w1 q => ?_
        obtain ⟨hq, q⟩ := q
        cases e <;> simp only [exRel] at hq
        subst hq
        simp only [Exit.inBlock]
        split at hr
        · rename_i e; simp only [Option.some.injEq, Prod.mk.injEq] at hr; obtain ⟨rfl, rfl⟩ := hr
          rw [if_pos e]; exact ⟨trivial, q⟩
        · rename_i e; simp only [Option.some.injEq, Prod.mk.injEq] at hr; obtain ⟨rfl, rfl⟩ := hr
          rw [if_neg e]; exact ⟨rfl, q⟩
      · rename_i h1
        refine wp_mono (ih hr hc hms W ht hN) fun e a1 w1 q => ?_
        cases e with
        | exit j =>
          obtain ⟨hq, q⟩ := q
          cases ex <;> simp only [exRel] at hq
          subst hq
          exact (h1 _ _ hr).elim
        | _ => exact q
    | loop keep mat x =>
      cases c <;> simp only [chkC] at hc <;> first | (cases hc; done) | skip
      rename_i body
      suffices hrounds : ∀ (k : Nat) (s : St) (ex : Ex) (s' : St) (F : Frz) (ε : Env) (a : Act) (w : World), k ≤ n + 1 → exec X m k (.loop keep mat x) s = some (ex, s') → m ≤ s.hp.length → WRel F ε s.hp w → TRel F ε s.tm a.tmps → N ≤ a.tmps.size →
          ∀ (Q : Exit → Act → World → Prop), (∀ e a' w', EndP m N F ε s.hp w a.defers ex s' e a' w' → Q e a' w') → Code.rounds P body Q k a w by
        exact wp_loop_rounds (n + 1) (hrounds (n + 1) s ex s' F ε a w (Nat.le_refl _) hr hms W ht hN _ fun _ _ _ q => q)
      intro k
      induction k with
      | zero => intro s ex s' F ε a w _ hr; simp [exec] at hr
      | succ k ihk =>
        intro s ex s' F ε a w hk hr hms W ht hN Q hQ
        simp only [exec] at hr
        rw [rounds_succ]
        obtain ⟨δ1, p1, q1⟩ := mats_rel (m := m) mat W ht hms
        have q2 := keep_rel q1 keep
        obtain ⟨δ2, p3, q3⟩ := norm_rel (s := (mats mat s).keep keep) (m := m) p1.W q2 p1.len
        have p13 := p1.trans p3
        have up : ∀ {n' : Nat} {c : AC} {s : St} {r}, n' ≤ n → exec X m n' c s = some r → exec X m n c s = some r := fun hle h => exec_mono (fun _ _ _ _ h => h) hle h
        split at hr
        · rename_i s1 h1
          refine wp_mono (ih (up (by omega) h1) hc p3.len p3.W q3 hN) fun e a1 w1 q => ?_
          obtain ⟨hq, F', ε', p', q', r', t'⟩ := q
          cases e <;> simp only [exRel] at hq
          refine ihk s1 ex s' F' ε' a1 w1 (by omega) hr p'.len p'.W q' r' Q fun e a2 w2 q => hQ e a2 w2 ?_
          rw [t'] at q
          exact q.next (p13.trans p')
        · rename_i h1
          refine wp_mono (ih (up (by omega) hr) hc p3.len p3.W q3 hN) fun e a1 w1 q => ?_
          have hex : ex ≠ .normal := fun he => h1 _ (by rw [hr, he])
          have q' := q.next p13
          cases e with
          | normal => obtain ⟨hq, _⟩ := q; cases ex <;> first | exact (hex rfl).elim | cases hq
          | _ => exact hQ _ _ _ q'
    | scope rests x =>
      cases c <;> simp only [chkC] at hc <;> first | (cases hc; done) | skip
      rename_i body
      simp only [Bool.and_eq_true] at hc
      refine wp_scope_in ?_
      have hscope : ∀ (k : Nat) (x : AC) (c2 : Code) (s : St) (ex : Ex) (s' : St) (F : Frz) (ε : Env) (a : Act) (w : World), k ≤ n + 1 → exec X m k (.scope rests x) s = some (ex, s') → chkC P N x c2 = true → m ≤ s.hp.length → WRel F ε s.hp w → TRel F ε s.tm a.tmps → N ≤ a.tmps.size →
          ∀ (Q : Exit → Act → World → Prop), (∀ e a' w', EndP m N F ε s.hp w a.defers ex s' e a' w' → Q e a' w') → InScope P body c2 Q a w := by
        intro k
        induction k with
        | zero => intro x c2 s ex s' F ε a w _ hr; simp [exec] at hr
        | succ k ihk =>
          intro x c2 s ex s' F ε a w hk hr hc2 hms W ht hN Q hQ
          simp only [exec] at hr
          have up : ∀ {n' : Nat} {c : AC} {s : St} {r}, n' ≤ n → exec X m n' c s = some r → exec X m n c s = some r := fun hle h => exec_mono (fun _ _ _ _ h => h) hle h
          refine inScope_of ?_
          split at hr
          · rename_i l s1 h1
            split at hr
            · rename_i c' hrest
              obtain ⟨y, hy1, hy2⟩ := restOf_chk hc.2 hrest
              refine wp_mono (ih (up (by omega) h1) hc2 hms W ht hN) fun e a1 w1 q => ?_
              obtain ⟨hq, F', ε', p', q', r', t'⟩ := q
              cases e <;> simp only [exRel] at hq
              subst hq
              simp only [hy1]
              refine ihk c' y s1 ex s' F' ε' a1 w1 (by omega) hr hy2 p'.len p'.W q' r' Q fun e a2 w2 q => hQ e a2 w2 ?_
              rw [t'] at q
              exact q.next p'
            · cases hr
          · rename_i h1
            refine wp_mono (ih (up (by omega) hr) hc2 hms W ht hN) fun e a1 w1 q => ?_
            cases e with
            | goto l =>
              obtain ⟨hq, _⟩ := q
              cases ex <;> simp only [exRel] at hq
              subst hq
              exact (h1 _ _ hr).elim
            | _ => exact hQ _ _ _ q
      exact hscope (n + 1) x body s ex s' F ε a w (Nat.le_refl _) hr hc.1 hms W ht hN _ fun _ _ _ q => q
end
end Go.Ab
