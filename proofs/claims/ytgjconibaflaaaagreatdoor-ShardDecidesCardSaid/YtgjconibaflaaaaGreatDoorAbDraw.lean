/- Operations in any order that the region allows. -/
import Derived.Test.YtgjconibaflaaaaGreatDoorAbReg
import Derived.Test.YtgjconibaflaaaaGreatDoorAbLoc
import Derived.Orders
namespace Go.Ab
open Go
set_option linter.unusedVariables false
set_option linter.unusedSimpArgs false

def tmpsOf : List AX → List Nat
  | [] => []
  | .t n :: l => n :: tmpsOf l
  | .c _ :: l => tmpsOf l
/-- The temporaries that an operation looks at. -/
def AO.looks (o : AO) : List Nat := (match o.guard with | some (t, _) => [t] | none => []) ++ tmpsOf o.op.axs
def AOp.mayW : AOp → Bool
  | .store .. | .mapset .. | .delete .. | .clear .. | .append .. | .copy .. | .call .. | .callv .. | .prim .. => true
  | _ => false
def AOp.mayR : AOp → Bool
  | .load .. | .slice .. | .iaddr _ none _ _ | .len .. | .lookup .. | .append .. | .copy .. => true
  | _ => false
def quiet (a b : AOp) : Bool := !(a.mayW && (b.mayW || b.mayR)) && !(b.mayW && a.mayR)
/-- The bound edges of an operation. -/
def deps (o : Oper) : List Nat := (o.after.toList.filter (Region.binds .any)).map (·.on)
def orAll (acc : List Nat) : List Nat → Nat
  | [] => 0
  | e :: l => (2 ^ e ||| acc.getD e 0) ||| orAll acc l
/-- The operations that come before one, whatever the order: as bits. -/
def ancs : List Oper → List Nat → Option (List Nat)
  | [], acc => some acc
  | o :: l, acc => if (deps o).all (· < acc.length) then ancs l (acc ++ [orAll acc (deps o)]) else none
def hasP (ps : List (Nat × Nat)) (i j : Nat) : Bool := ps.any fun p => p.1 == i && p.2 == j
def noneOf (d : Option Nat) (l : List Nat) : Bool := match d with | some d => !has l d | none => true
def chkPair (ps : List (Nat × Nat)) (i j : Nat) (a b : AO) : Bool :=
  noneOf a.dst b.looks && noneOf b.dst a.looks && (match a.dst with | some d => decide (b.dst ≠ some d) | none => true) && (quiet a.op b.op || hasP ps i j)
def chkPairs (aos : List AO) (an : List Nat) (ps : List (Nat × Nat)) : Bool :=
  (aos.zipIdx).all fun (b, j) => (aos.zipIdx).all fun (a, i) => if i < j then (an.getD j 0).testBit i || chkPair ps i j a b else true
def chkD (P : Program) (N : Nat) (ops : Array Oper) (aos : List AO) (ps : List (Nat × Nat)) : Bool :=
  chkL P N ops ops.toList aos && aos.all (fun ao => ao.op.axs.all fun x => match x with | .c v => v.refs.isEmpty | .t _ => true) && (match ancs ops.toList [] with | some an => chkPairs aos an ps | none => false)


theorem foot_quiet {ao : AOp} {s : St} : (ao.mayW = false → (foot ao s).2 = []) ∧ (ao.mayW = false → ao.mayR = false → (foot ao s).1 = []) ∧ (ao.mayR = false → (foot ao s).1 = []) := by
  cases ao <;> simp [AOp.mayW, AOp.mayR, foot]
  case iaddr k al x i => cases al <;> simp [AOp.mayR]
  case callv x xs => split <;> rfl
theorem meets_iff (a b : List Nat) : meets a b = true ↔ ∃ x, x ∈ a ∧ x ∈ b := by
  unfold meets
  rw [List.any_eq_true]
  constructor
  · rintro ⟨x, h1, h2⟩; exact ⟨x, h1, (has_iff b x).1 h2⟩
  · rintro ⟨x, h1, h2⟩; exact ⟨x, h1, (has_iff b x).2 h2⟩
theorem meets_nil (a : List Nat) : meets a [] = false := by
  cases h : meets a [] with
  | false => rfl
  | true => obtain ⟨x, _, hx⟩ := (meets_iff a []).1 h; cases hx
theorem quiet_clash {a b : AO} {s t : St} (h : quiet a.op b.op = true) : clash (footO a s) (footO b t) = false := by
  simp only [quiet, Bool.and_eq_true, Bool.not_eq_true', Bool.and_eq_false_iff, Bool.or_eq_false_iff] at h
  have fa : (a.op.mayW = false → (footO a s).2 = []) ∧ (a.op.mayR = false → (footO a s).1 = []) := by
    unfold footO
    split
    · exact ⟨foot_quiet.1, foot_quiet.2.2⟩
    · exact ⟨fun _ => rfl, fun _ => rfl⟩
  have fb : (b.op.mayW = false → (footO b t).2 = []) ∧ (b.op.mayR = false → (footO b t).1 = []) := by
    unfold footO
    split
    · exact ⟨foot_quiet.1, foot_quiet.2.2⟩
    · exact ⟨fun _ => rfl, fun _ => rfl⟩
  unfold clash
  have h1 : meets (footO a s).2 ((footO b t).1 ++ (footO b t).2) = false := by
    rcases h.1 with g | ⟨g1, g2⟩
    · rw [fa.1 g]; rfl
    · rw [fb.1 g1, fb.2 g2]; exact meets_nil _
  have h2 : meets (footO b t).2 (footO a s).1 = false := by
    rcases h.2 with g | g
    · rw [fb.1 g]; rfl
    · rw [fa.2 g]; exact meets_nil _
  rw [h1, h2]; rfl
/-- The run, state by state. -/
theorem trace {X : CallSem} : ∀ {l : List AO} {s s' : St} {fs : List (List Nat × List Nat)}, runLog X l s = some (s', fs) →
    ∃ tr : Nat → St, tr 0 = s ∧ tr l.length = s' ∧ fs.length = l.length ∧ ∀ i ao, l[i]? = some ao → stepO X ao (tr i) = some (tr (i + 1)) ∧ fs[i]? = some (footO ao (tr i))
  | [], s, s', fs, h => by
    simp only [runLog, Option.some.injEq, Prod.mk.injEq] at h
    obtain ⟨rfl, rfl⟩ := h
    exact ⟨fun _ => s, rfl, rfl, rfl, fun i ao hi => by simp at hi⟩
  | o :: l, s, s', fs, h => by
    simp only [runLog] at h
    split at h
    · rename_i s1 h1
      split at h
      · rename_i s2 fs2 h2
        simp only [Option.some.injEq, Prod.mk.injEq] at h
        obtain ⟨rfl, rfl⟩ := h
        obtain ⟨tr, t0, tn, tl, ts⟩ := trace h2
        refine ⟨fun i => match i with | 0 => s | i + 1 => tr i, rfl, tn, by simp [tl], fun i ao hi => ?_⟩
        cases i with
        | zero => simp at hi; subst hi; exact ⟨by simpa [t0] using h1, rfl⟩
        | succ i => exact ⟨(ts i ao (by simpa using hi)).1, by simpa using (ts i ao (by simpa using hi)).2⟩
      · cases h
    · cases h
theorem orAll_bit (acc : List Nat) (j : Nat) : ∀ l : List Nat, (orAll acc l).testBit j = true ↔ (j ∈ l ∨ ∃ e ∈ l, (acc.getD e 0).testBit j = true)
  | [] => by simp [orAll]
  | e :: l => by
    simp only [orAll, Nat.testBit_or, Bool.or_eq_true, orAll_bit acc j l, Nat.testBit_two_pow, decide_eq_true_eq, List.mem_cons, exists_eq_or_imp]
    constructor
    · rintro ((h | h) | (h | h))
      · exact .inl (.inl h.symm)
      · exact .inr (.inl h)
      · exact .inl (.inr h)
      · exact .inr (.inr h)
    · rintro ((h | h) | (h | h))
      · exact .inl (.inl h.symm)
      · exact .inr (.inl h)
      · exact .inl (.inr h)
      · exact .inr (.inr h)
theorem orAll_congr {acc an : List Nat} : ∀ {l : List Nat}, (∀ e ∈ l, acc.getD e 0 = an.getD e 0) → orAll acc l = orAll an l
  | [], _ => rfl
  | e :: l, h => by
    simp only [orAll]
    rw [h e (by simp), orAll_congr fun x hx => h x (by simp [hx])]
theorem ancs_spec : ∀ {l : List Oper} {acc an : List Nat}, ancs l acc = some an → (∃ r, an = acc ++ r) ∧ an.length = acc.length + l.length ∧
    ∀ i o, l[i]? = some o → (∀ e ∈ deps o, e < acc.length + i) ∧ an[acc.length + i]? = some (orAll an (deps o))
  | [], acc, an, h => by
    simp only [ancs, Option.some.injEq] at h; subst h
    exact ⟨⟨[], by simp⟩, by simp, fun i o hi => by simp at hi⟩
  | o :: l, acc, an, h => by
    simp only [ancs] at h
    split at h
    · rename_i hall
      obtain ⟨⟨r, hr⟩, hlen, hs⟩ := ancs_spec h
      refine ⟨⟨_, by rw [hr, List.append_assoc]⟩, by rw [hlen]; simp; omega, fun i o' hi => ?_⟩
      cases i with
      | zero =>
        simp at hi; subst hi
        have hlt : ∀ e ∈ deps o, e < acc.length := by
          intro e he
          have := List.all_eq_true.1 hall e he
          simpa using this
        refine ⟨by simpa using hlt, ?_⟩
        rw [Nat.add_zero]
        conv => lhs; rw [hr]
        rw [List.getElem?_append_left (by simp), List.getElem?_append_right (Nat.le_refl _)]
        simp only [Nat.sub_self, List.getElem?_cons_zero, Option.some.injEq]
        refine orAll_congr fun e he => ?_
        have := hlt e he
        rw [hr, List.append_assoc]
        simp [List.getD_eq_getElem?_getD, List.getElem?_append_left this]
      | succ i =>
        have := hs i o' (by simpa using hi)
        rw [List.length_append, List.length_singleton] at this
        rw [show acc.length + (i + 1) = acc.length + 1 + i by omega]
        exact this
    · cases h

/-! ### Names that have a place -/
theorem refsL_mem : ∀ {l : List AV} {x : Nat}, x ∈ refsL l → ∃ (i : Nat) (v : AV), l[i]? = some v ∧ x ∈ v.refs
  | [], x, h => by simp [refsL] at h
  | v :: l, x, h => by
    simp only [refsL, List.mem_append] at h
    rcases h with h | h
    · exact ⟨0, v, rfl, h⟩
    · obtain ⟨i, u, h1, h2⟩ := refsL_mem h
      exact ⟨i + 1, u, by simpa using h1, h2⟩
theorem VRel.good {F : Frz} {ε : Env} {v : AV} {u : Value} (h : VRel F ε v u) : ∀ x ∈ v.refs, ∃ l, ε x = some l := by
  induction h with
  | vec h ha => intro x hx; simp [AV.refs] at hx; subst hx; exact ⟨_, h⟩
  | sub h hn ha => intro x hx; simp [AV.refs] at hx; subst hx; exact ⟨_, h⟩
  | ptr i j h hc => intro x hx; simp [AV.refs] at hx; subst hx; exact ⟨_, h⟩
  | mp h hc => intro x hx; simp [AV.refs] at hx; subst hx; exact ⟨_, h⟩
  | fn f ha hb h h' ih ih' =>
    rename_i as bs us ws
    intro x hx
    simp only [AV.refs, List.mem_append] at hx
    rcases hx with hx | hx
    · obtain ⟨i, v, h1, h2⟩ := refsL_mem hx
      have hi : i < us.size := by rw [ha]; exact (List.getElem?_eq_some_iff.1 h1).1
      exact ih i v us[i] h1 (by simp [hi]) x h2
    · obtain ⟨i, v, h1, h2⟩ := refsL_mem hx
      have hi : i < ws.size := by rw [hb]; exact (List.getElem?_eq_some_iff.1 h1).1
      exact ih' i v ws[i] h1 (by simp [hi]) x h2
  | agg ha h ih =>
    rename_i as us
    intro x hx
    obtain ⟨i, v, h1, h2⟩ := refsL_mem (by simpa [AV.refs] using hx)
    have hi : i < us.size := by rw [ha]; exact (List.getElem?_eq_some_iff.1 h1).1
    exact ih i v us[i] h1 (by simp [hi]) x h2
  | tup ha h ih =>
    rename_i as us
    intro x hx
    obtain ⟨i, v, h1, h2⟩ := refsL_mem (by simpa [AV.refs] using hx)
    have hi : i < us.size := by rw [ha]; exact (List.getElem?_eq_some_iff.1 h1).1
    exact ih i v us[i] h1 (by simp [hi]) x h2
  | _ => intro x hx; simp [AV.refs] at hx
theorem refsLL_mem : ∀ {l : List (List AV)} {x : Nat}, x ∈ refsLL l → ∃ i j v, at2 l i j = some v ∧ x ∈ v.refs
  | [], x, h => by simp [refsLL] at h
  | r :: l, x, h => by
    simp only [refsLL, List.mem_append] at h
    rcases h with h | h
    · obtain ⟨j, v, h1, h2⟩ := refsL_mem h
      exact ⟨0, j, v, by simpa [at2] using h1, h2⟩
    · obtain ⟨i, j, v, h1, h2⟩ := refsLL_mem h
      exact ⟨i + 1, j, v, by simpa [at2] using h1, h2⟩
theorem refsE_mem : ∀ {l : List (List FV × AV)} {x : Nat}, x ∈ refsE l → ∃ (i : Nat) (e : List FV × AV), l[i]? = some e ∧ x ∈ e.2.refs
  | [], x, h => by simp [refsE] at h
  | (k, v) :: l, x, h => by
    simp only [refsE, List.mem_append] at h
    rcases h with h | h
    · exact ⟨0, (k, v), rfl, h⟩
    · obtain ⟨i, e, h1, h2⟩ := refsE_mem h
      exact ⟨i + 1, e, by simpa using h1, h2⟩
theorem BRel.good {F : Frz} {ε : Env} {l : Loc} {w : World} {B : Blk} (h : BRel F ε l w B) : ∀ x ∈ B.refs, ∃ l, ε x = some l := by
  intro x hx
  cases B with
  | frows k rs => simp [Blk.refs] at hx
  | rows k rs =>
    obtain ⟨i, j, v, h1, h2⟩ := refsLL_mem (by simpa [Blk.refs] using hx)
    obtain ⟨a1, a2, a3, a4, a5⟩ := h
    cases hc : l.c with
    | none =>
      rw [hc] at a5
      have h0 : l.C = 0 := a5
      obtain ⟨r, hr, _⟩ := at2_lt h1
      have := (List.getElem?_eq_some_iff.1 hr).1
      omega
    | some c =>
      simp only [hc] at a5
      obtain ⟨ar, e, _, _, hcell⟩ := a5
      obtain ⟨u, _, hv⟩ := hcell i j v h1
      exact hv.good x h2
  | map es =>
    obtain ⟨i, e, h1, h2⟩ := refsE_mem (by simpa [Blk.refs] using hx)
    obtain ⟨c, ents, b1, b2, b3, b4⟩ := h
    have hi : i < ents.size := by rw [b3]; exact (List.getElem?_eq_some_iff.1 h1).1
    exact (b4 i e ents[i] h1 (by simp [hi])).2.1.good x h2
  | iter t p => simp [Blk.refs] at hx
theorem ren_id {ρ : Nat → Option Nat} : ∀ {v : AV}, (∀ x ∈ v.refs, ρ x = some x) → v.ren ρ = v := by
  intro v
  apply AV.rec (motive_1 := fun v => (∀ x ∈ v.refs, ρ x = some x) → v.ren ρ = v) (motive_2 := fun l => (∀ x ∈ refsL l, ρ x = some x) → renL ρ l = l)
  · intro v h; rfl
  · intro k h; rfl
  · intro id h; simp [AV.ren, h id (by simp [AV.refs])]
  · intro id o n h; simp [AV.ren, h id (by simp [AV.refs])]
  · intro id i j h; simp [AV.ren, h id (by simp [AV.refs])]
  · intro k rs i j h; rfl
  · intro id h; simp [AV.ren, h id (by simp [AV.refs])]
  · intro f a b ih1 ih2 h
    simp only [AV.ren]
    rw [ih1 fun x hx => h x (by simp [AV.refs, hx]), ih2 fun x hx => h x (by simp [AV.refs, hx])]
  · intro l ih h; simp only [AV.ren]; rw [ih fun x hx => h x (by simpa [AV.refs] using hx)]
  · intro l ih h; simp only [AV.ren]; rw [ih fun x hx => h x (by simpa [AV.refs] using hx)]
  · intro h; rfl
  · intro h; rfl
  · intro v l ih1 ih2 h
    simp only [renL]
    rw [ih1 fun x hx => h x (by simp [refsL, hx]), ih2 fun x hx => h x (by simp [refsL, hx])]
theorem renL_id {ρ : Nat → Option Nat} : ∀ {l : List AV}, (∀ x ∈ refsL l, ρ x = some x) → renL ρ l = l
  | [], h => rfl
  | v :: l, h => by
    simp only [renL]
    rw [ren_id fun x hx => h x (by simp [refsL, hx]), renL_id fun x hx => h x (by simp [refsL, hx])]
theorem renLL_id {ρ : Nat → Option Nat} : ∀ {l : List (List AV)}, (∀ x ∈ refsLL l, ρ x = some x) → renLL ρ l = l
  | [], h => rfl
  | v :: l, h => by
    simp only [renLL]
    rw [renL_id fun x hx => h x (by simp [refsLL, hx]), renLL_id fun x hx => h x (by simp [refsLL, hx])]
theorem renE_id {ρ : Nat → Option Nat} : ∀ {l : List (List FV × AV)}, (∀ x ∈ refsE l, ρ x = some x) → renE ρ l = l
  | [], h => rfl
  | (k, v) :: l, h => by
    simp only [renE]
    rw [ren_id fun x hx => h x (by simp [refsE, hx]), renE_id fun x hx => h x (by simp [refsE, hx])]
theorem Blk.ren_id {ρ : Nat → Option Nat} {B : Blk} (h : ∀ x ∈ B.refs, ρ x = some x) : B.ren ρ = B := by
  cases B with
  | frows k rs => rfl
  | rows k rs => simp only [Blk.ren]; rw [renLL_id (by simpa [Blk.refs] using h)]
  | map es => simp only [Blk.ren]; rw [renE_id (by simpa [Blk.refs] using h)]
  | iter t p => rfl
theorem reach_pre (h : Heap) : ∀ (n : Nat) (todo seen : List Nat), ∃ r, reach h n todo seen = seen ++ r
  | 0, todo, seen => ⟨[], by simp [reach]⟩
  | n + 1, [], seen => ⟨[], by simp [reach]⟩
  | n + 1, id :: todo, seen => by
    simp only [reach]
    split
    · exact reach_pre h n todo seen
    · split
      · rename_i b _
        obtain ⟨r, hr⟩ := reach_pre h n (b.refs ++ todo) (seen ++ [id])
        exact ⟨[id] ++ r, by rw [hr, List.append_assoc]⟩
      · exact reach_pre h n todo seen
/-- All that an operation looks at has a place, if what it is given has. -/
theorem reach_good {h : Heap} {G Z : Nat → Prop} (hG : ∀ id B, G id → Z id → h.at id = some B → ∀ r ∈ B.refs, G r) : ∀ (n : Nat) (todo seen : List Nat), (∀ x ∈ todo, G x) → (∀ x ∈ seen, G x) → (∀ x ∈ reach h n todo seen, Z x) → ∀ x ∈ reach h n todo seen, G x
  | 0, todo, seen, ht, hs, hz => hs
  | n + 1, [], seen, ht, hs, hz => hs
  | n + 1, id :: todo, seen, ht, hs, hz => by
    simp only [reach] at hz ⊢
    split
    · rename_i h1
      rw [if_pos h1] at hz
      exact reach_good hG n todo seen (fun x hx => ht x (by simp [hx])) hs hz
    · rename_i h1
      rw [if_neg h1] at hz
      cases hb : h.at id with
      | none =>
        rw [hb] at hz
        exact reach_good hG n todo seen (fun x hx => ht x (by simp [hx])) hs hz
      | some B =>
        rw [hb] at hz
        simp only at hz ⊢
        have gid := ht id (by simp)
        have zid : Z id := hz id (by
          obtain ⟨r, hr⟩ := reach_pre h n (B.refs ++ todo) (seen ++ [id])
          rw [hr]; simp)
        refine reach_good hG n (B.refs ++ todo) (seen ++ [id]) (fun x hx => ?_) (fun x hx => ?_) hz
        · rcases List.mem_append.1 hx with h2 | h2
          · exact hG id B gid zid hb x h2
          · exact ht x (by simp [h2])
        · rcases List.mem_append.1 hx with h2 | h2
          · exact hs x h2
          · simp at h2; subst h2; exact gid
theorem idOf_refs {v : AV} : ∀ x ∈ idOf v, x ∈ v.refs := by cases v <;> simp [idOf, AV.refs]
theorem foot_good {ao : AOp} {s : St} {G : Nat → Prop} (hx : ∀ x ∈ ao.axs, ∀ id ∈ (s.ev x).refs, G id)
    (hG : ∀ id B, G id → id ∈ (foot ao s).1 ++ (foot ao s).2 → s.hp.at id = some B → ∀ r ∈ B.refs, G r) : ∀ id ∈ (foot ao s).1 ++ (foot ao s).2, G id := by
  have one : ∀ x ∈ ao.axs, ∀ id ∈ idOf (s.ev x), G id := fun x h id hid => hx x h id (idOf_refs id hid)
  cases ao with
  | call f xs =>
    intro id hid
    simp only [foot, List.nil_append] at hid hG
    refine reach_good (Z := fun id => id ∈ reach s.hp 1000 (refsL (xs.map s.ev)) []) hG 1000 _ [] (fun x h => ?_) (fun x h => by cases h) (fun x h => h) id hid
    obtain ⟨i, v, h1, h2⟩ := refsL_mem h
    rw [List.getElem?_map] at h1
    obtain ⟨y, hy, rfl⟩ := Option.map_eq_some_iff.1 h1
    exact hx y (List.mem_of_getElem? hy) x h2
  | prim p xs =>
    intro id hid
    simp only [foot, List.nil_append] at hid hG
    refine reach_good (Z := fun id => id ∈ reach s.hp 1000 (refsL (xs.map s.ev)) []) hG 1000 _ [] (fun x h => ?_) (fun x h => by cases h) (fun x h => h) id hid
    obtain ⟨i, v, h1, h2⟩ := refsL_mem h
    rw [List.getElem?_map] at h1
    obtain ⟨y, hy, rfl⟩ := Option.map_eq_some_iff.1 h1
    exact hx y (List.mem_of_getElem? hy) x h2
  | callv y xs =>
    intro id hid
    simp only [foot] at hid hG
    split at hid
    · rename_i f as bs hy
      simp only [hy] at hG
      simp only [List.nil_append] at hid hG
      refine reach_good (Z := fun id => id ∈ reach s.hp 1000 (refsL (as ++ xs.map s.ev ++ bs)) []) hG 1000 _ [] (fun x h => ?_) (fun x h => by cases h) (fun x h => h) id hid
      have hfn : ∀ id ∈ refsL as ++ refsL bs, G id := fun id h => hx y (by simp [AOp.axs]) id (by rw [hy]; exact h)
      obtain ⟨i, v, h1, h2⟩ := refsL_mem h
      have happ : ∀ {l : List AV} {i : Nat} {v : AV}, l[i]? = some v → x ∈ v.refs → x ∈ refsL l := by
        intro l
        induction l with
        | nil => intro i v h; simp at h
        | cons u l ih =>
          intro i v h hx
          simp only [refsL, List.mem_append]
          cases i with
          | zero => simp at h; subst h; exact .inl hx
          | succ i => exact .inr (ih (by simpa using h) hx)
      have hm := List.mem_of_getElem? h1
      simp only [List.mem_append, List.mem_map] at hm
      rcases hm with (hm | ⟨z, hz, rfl⟩) | hm
      · obtain ⟨j, hj⟩ := List.getElem?_of_mem hm
        exact hfn x (by simp [happ hj h2])
      · exact hx z (by simp [AOp.axs, hz]) x h2
      · obtain ⟨j, hj⟩ := List.getElem?_of_mem hm
        exact hfn x (by simp [happ hj h2])
    · simp at hid
  | iaddr k al x i =>
    intro id hid
    cases al with
    | none => simp only [foot, List.append_nil] at hid; exact one x (by simp [AOp.axs]) id hid
    | some m => simp [foot] at hid
  | _ =>
    intro id hid
    simp only [foot, List.mem_append, List.append_nil, List.nil_append] at hid
    first
      | (cases hid; done)
      | exact one _ (by simp [AOp.axs]) id hid
      | (rcases hid with hid | hid <;> first | (cases hid; done) | exact one _ (by simp [AOp.axs]) id hid)
end Go.Ab
