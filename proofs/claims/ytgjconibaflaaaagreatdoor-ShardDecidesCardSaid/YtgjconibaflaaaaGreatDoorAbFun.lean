/- Functions. -/
import Derived.Test.YtgjconibaflaaaaGreatDoorAbCode
namespace Go.Ab
open Go
set_option linter.unusedVariables false
set_option linter.unusedSimpArgs false
section
variable {P : Program} {X : CallSem} {F : Frz} {ε : Env} {h : Heap} {w : World}

theorem dropAll_at : ∀ (T : List Nat) (h : Heap) (id : Nat), Heap.at (h.dropAll T) id = if id ∈ T then none else h.at id
  | [], h, id => by simp [Heap.dropAll]
  | t :: T, h, id => by
    rw [Heap.dropAll, dropAll_at T, Heap.at_set]
    by_cases h1 : id ∈ T
    · simp [h1]
    · by_cases h2 : id = t
      · subst h2
        by_cases h3 : id < h.length
        · simp [h1, h3]
        · have : h.at id = none := by
            cases hh : h.at id with
            | none => rfl
            | some B => exact absurd (Heap.at_lt hh) h3
          simp [h1, h3, this]
      · simp [h1, h2]
theorem dropAll_length : ∀ (T : List Nat) (h : Heap), (h.dropAll T).length = h.length
  | [], h => rfl
  | t :: T, h => by rw [Heap.dropAll, dropAll_length T]; simp
/-- Blocks are frozen. -/
theorem freeze_rel (W : WRel F ε h w) (T : List Nat) : ∃ F', WRel F' ε (h.dropAll T) w ∧ FGrow F F' ε h w ∧ OwnSub ε h w ε (h.dropAll T) ∧
    (∀ id k rs l c, id ∈ T → h.at id = some (.frows k rs) → ε id = some l → l.c = some c → F' c = w.heap[c]?) := by
  classical
  let G : Nat → Prop := fun c => ∃ id B l, id ∈ T ∧ h.at id = some B ∧ ε id = some l ∧ l.c = some c
  have hnone : ∀ c, G c → F c = none := fun c ⟨id, B, l, _, h2, h3, h4⟩ => W.sep id B l c h2 h3 h4
  have hat : ∀ id B, Heap.at (h.dropAll T) id = some B → id ∉ T ∧ h.at id = some B := by
    intro id B hb
    rw [dropAll_at] at hb
    split at hb
    · cases hb
    · rename_i hn; exact ⟨hn, hb⟩
  let F' : Frz := fun b => if G b then w.heap[b]? else F b
  have hle : F.le F' := by
    intro b o hb
    have : ¬ G b := fun hg => by rw [hnone b hg] at hb; cases hb
    simp [F', this, hb]
  refine ⟨F', ⟨fun b o hb => ?_, fun id B hb => ?_, fun id B l c hb he hc => ?_, fun id id' B B' l l' c h1 h2 => W.inj id id' B B' l l' c (hat _ _ h1).2 (hat _ _ h2).2, fun id hid => W.dom id (by rwa [dropAll_length] at hid)⟩, ⟨hle, fun b o hb => ?_⟩, fun b _ ⟨id, B, l, h1, h2, h3⟩ => ⟨id, B, l, (hat _ _ h1).2, h2, h3⟩, fun id k rs l c hm hb he hc => ?_⟩
  · simp only [F'] at hb
    split at hb
    · exact hb
    · exact W.frz b o hb
  · obtain ⟨l, e1, e2⟩ := W.blk id B (hat _ _ hb).2
    exact ⟨l, e1, e2.mono hle (Env.le_refl _)⟩
  · obtain ⟨hn, hb'⟩ := hat _ _ hb
    have : ¬ G c := fun ⟨id', B', l', h1, h2, h3, h4⟩ => hn (by rw [W.inj id id' B B' l l' c hb' h2 he h3 hc h4]; exact h1)
    simp [F', this, W.sep id B l c hb' he hc]
  · simp only [F'] at hb
    split at hb
    · rename_i hg
      obtain ⟨id, B, l, _, h2, h3, h4⟩ := hg
      exact .inr (.inl ⟨id, B, l, h2, h3, h4⟩)
    · exact .inl hb
  · have : G c := ⟨id, _, l, hm, hb, he, hc⟩
    simp [F', this]
/-- A frozen view. -/
theorem frz_view {F' : Frz} (hle : F.le F') {l : Loc} {k : Nat} {rs : List (List FV)} (hc : CRel F ε l k (ofF rs) w) (hF : ∀ c, l.c = some c → F' c = w.heap[c]?) {off n : Nat} {ad : Option Addr} (hs : SlAt l off ad) (hn : off + n ≤ l.n) :
    FRel F' (.sl k ((rs.drop off).take n)) (.slice ad n (l.C - off)) := by
  have hnC := hc.2.2.2.1
  have hl : rs.length = l.n := by simpa [ofF] using hc.2.1
  have hlen : ((rs.drop off).take n).length = n := by simp; omega
  have h0 : n = 0 → FRel F' (.sl k ((rs.drop off).take n)) (.slice ad n (l.C - off)) := by
    rintro rfl
    simp only [List.take_zero]
    exact .sl0 k ad _
  unfold SlAt at hs
  cases hlc : l.c with
  | none =>
    rw [hlc] at hs
    have : l.C = 0 := hs
    exact h0 (by omega)
  | some c =>
    rw [hlc] at hs
    rcases hs with hs | rfl
    · exact h0 (by omega)
    · obtain ⟨hk, _, hrow, _, hm⟩ := hc
      simp only [hlc] at hm
      obtain ⟨cs, e, hh, hsz, hcell⟩ := hm
      rw [hk]
      have key : ∀ i j x, at2 ((rs.drop off).take n) i j = some x → ∃ u, cs[l.base + off * k + i * k + j]? = some u ∧ FRel F x u := by
        intro i j x hx
        rw [at2_drop] at hx
        split at hx
        · obtain ⟨u, h1, h2⟩ := hcell (off + i) j (.f x) (by rw [at2_ofF, hx]; rfl)
          refine ⟨u, by rw [← h1]; congr 1; rw [Nat.add_mul]; omega, ?_⟩
          cases h2 with | f h => exact h
        · cases hx
      have := FRel.sl (F := F') k ((rs.drop off).take n) c (l.base + off * k) (l.C - off) cs e (0, 0) (fun i j => (cs[l.base + off * k + i * k + j]?).getD undef) (by rw [hF c hlc]; exact hh)
        (fun r hr => by
          have hr' : r ∈ rs := List.mem_of_mem_drop (List.mem_of_mem_take hr)
          have := hrow (r.map .f) (by simp only [ofF, List.mem_map]; exact ⟨r, hr', rfl⟩)
          simpa using this)
        (fun i j x hx => by obtain ⟨u, h1, _⟩ := key i j x hx; rw [h1]; rfl)
        (fun i j x hx => by obtain ⟨u, h1, h2⟩ := key i j x hx; rw [h1]; exact h2.mono hle)
        (by rw [hlen]; omega)
      rw [hlen] at this
      exact this
theorem frzL_map (h : Heap) : ∀ l, frzL h l = l.map (AV.frz h)
  | [] => rfl
  | v :: l => by simp [frzL, frzL_map h l]
theorem takenL_mem (h : Heap) : ∀ (l : List AV) v, v ∈ l → ∀ x ∈ v.taken h, x ∈ takenL h l
  | [], v, hv => by cases hv
  | u :: l, v, hv => by
    intro x hx
    simp only [takenL, List.mem_append]
    rcases List.mem_cons.1 hv with h1 | h1
    · subst h1; exact .inl hx
    · exact .inr (takenL_mem h l v h1 x hx)
theorem VRel.frz {F' : Frz} {T : List Nat} (W : WRel F ε h w) (hle : F.le F') (hF : ∀ id k rs l c, id ∈ T → h.at id = some (.frows k rs) → ε id = some l → l.c = some c → F' c = w.heap[c]?) {v : AV} {u : Value} (hv : VRel F ε v u)
    (hT : ∀ x ∈ v.taken h, x ∈ T) : VRel F' ε (v.frz h) u := by
  induction hv with
  | f q => exact .f (q.mono hle)
  | sl0 k a => exact .f (.sl0 k a 0)
  | @vec id l a he ha =>
    simp only [AV.frz]
    split
    · rename_i k rs hat
      obtain ⟨l', e1, e2⟩ := W.blk id _ hat
      rw [he] at e1; cases e1
      have hl : rs.length = l.n := by have := e2.2.1; simpa [ofF] using this
      have := frz_view hle e2 (fun c hc => hF id k rs l c (hT id (by simp [AV.taken, takenBy, hat])) hat he hc) ha (n := l.n) (by omega)
      simp only [List.drop_zero, ← hl, List.take_length, Nat.sub_zero] at this
      rw [hl] at this
      exact .f this
    · exact .vec he ha
  | @sub id off n l a he hn ha =>
    simp only [AV.frz]
    split
    · rename_i k rs hat
      obtain ⟨l', e1, e2⟩ := W.blk id _ hat
      rw [he] at e1; cases e1
      exact .f (frz_view hle e2 (fun c hc => hF id k rs l c (hT id (by simp [AV.taken, takenBy, hat])) hat he hc) ha hn)
    · exact .sub he hn ha
  | ptr i j h hl => exact .ptr i j h hl
  | fptr k rows b off cs e fr i j hF' hk hcc => exact .fptr k rows b off cs e fr i j (hle _ _ hF') hk (fun i j x hx => let ⟨v, h1, h2⟩ := hcc i j x hx; ⟨v, h1, h2.mono hle⟩)
  | mp h hl => exact .mp h hl
  | fn f ha hb h h' ih ih' => exact (VRel.fn f ha hb h h').mono hle (Env.le_refl _)
  | @agg as us ha hh ih =>
    simp only [AV.frz, frzL_map]
    refine .agg (by simpa using ha) (fun i v u hv hu => ?_)
    rw [List.getElem?_map] at hv
    obtain ⟨x, hx, rfl⟩ := Option.map_eq_some_iff.1 hv
    exact ih i x u hx hu (fun y hy => hT y (by simp only [AV.taken]; exact takenL_mem h as x (List.mem_of_getElem? hx) y hy))
  | @tup as us ha hh ih =>
    simp only [AV.frz, frzL_map]
    refine .tup (by simpa using ha) (fun i v u hv hu => ?_)
    rw [List.getElem?_map] at hv
    obtain ⟨x, hx, rfl⟩ := Option.map_eq_some_iff.1 hv
    exact ih i x u hx hu (fun y hy => hT y (by simp only [AV.taken]; exact takenL_mem h as x (List.mem_of_getElem? hx) y hy))
  | dead u => exact .dead u

theorem gc_rel {m : Nat} {v : AV} {u : Value} (W : WRel F ε h w) (hv : VRel F ε v u) (hm : m ≤ h.length) : ∃ δ, PostM m F ε h w F δ (gc m v h).2 w ∧ VRel F δ (gc m v h).1 u := by
  obtain ⟨r1, r2⟩ := live_spec m h v.refs hm
  obtain ⟨a1, a2, a3⟩ := pack_rel W r1 r2
  refine ⟨_, ⟨FGrow.refl _ _ _ _, fun id hid => ?_, ?_, a1, Fr.refl _ _ _, fun b _ ho => a3 b ho⟩, hv.ren a2⟩
  · rw [live_get m h _ id hid]; rfl
  · show m ≤ (pack h _ _).length
    rw [pack_length]; exact live_len _ _ _
def chkRes (P : Program) : List ResultVar → List RV → Bool
  | [], [] => true
  | .tmp t :: l, .tmp u :: r => t == u && chkRes P l r
  | .cell a t :: l, .cell b agg :: r => a == b && aggOk P t agg && chkRes P l r
  | _, _ => false
def resOf (tmps : Array Value) : ResultVar → Sem Value
  | .tmp t => pure (tmps.getD t undef)
  | .cell a t => do loadVar t (← asAddr (tmps.getD a undef))
theorem results_rel {s : St} {tmps : Array Value} (W : WRel F ε s.hp w) (ht : TRel F ε s.tm tmps) : ∀ {l : List ResultVar} {rs : List RV} {vs : List AV}, chkRes P l rs = true → Ab.results s rs = some vs →
    ∃ us, (l.mapM (resOf tmps)).run P w = .ok us w ∧ LRel F ε vs us
  | [], [], vs, _, hr => by
    simp only [Ab.results, Option.some.injEq] at hr; subst hr
    exact ⟨[], rfl, LRel.nil _ _⟩
  | .tmp t :: l, .tmp u :: r, vs, hc, hr => by
    simp only [chkRes, Bool.and_eq_true, beq_iff_eq] at hc
    obtain ⟨rfl, hc⟩ := hc
    simp only [Ab.results] at hr
    split at hr
    · rename_i vs' h1
      cases hr
      obtain ⟨us, e1, e2⟩ := results_rel W ht hc h1
      refine ⟨tmps.getD t undef :: us, ?_, LRel.cons (ht t) e2⟩
      rw [List.mapM_cons]
      simp only [resOf, Sem.run_bind, Sem.run_pure, Result.andThen_ok]
      rw [e1]
      rfl
    · cases hr
  | .cell a t :: l, .cell b agg :: r, vs, hc, hr => by
    simp only [chkRes, Bool.and_eq_true, beq_iff_eq] at hc
    obtain ⟨⟨rfl, hagg⟩, hc⟩ := hc
    simp only [Ab.results] at hr
    split at hr
    · rename_i cs vs' h0 h1
      split at hr
      · rename_i v hv
        cases hr
        obtain ⟨us, e1, e2⟩ := results_rel W ht hc h1
        obtain ⟨c, base, y, y1, y2, y3⟩ := var_rel (P := P) W hagg (ht a) h0 hv
        refine ⟨y :: us, ?_, LRel.cons y3 e2⟩
        rw [List.mapM_cons]
        have hadr : (asAddr (tmps.getD a undef)).run P w = .ok ⟨c, base, none⟩ w := by rw [y1]; rfl
        simp only [resOf, Sem.run_bind, Result.andThen_ok, hadr, Sem.run_pure, y2]
        rw [e1]
        rfl
      · cases hr
    · cases hr
  | [], _ :: _, _, hc, _ => by simp [chkRes] at hc
  | .tmp _ :: _, [], _, hc, _ => by simp [chkRes] at hc
  | .cell _ _ :: _, [], _, hc, _ => by simp [chkRes] at hc
  | .tmp _ :: _, .cell _ _ :: _, _, hc, _ => by simp [chkRes] at hc
  | .cell _ _ :: _, .tmp _ :: _, _, hc, _ => by simp [chkRes] at hc
def oneOf : List AV → AV
  | [v] => v
  | vs => .tup vs
theorem results_run {fn : Func} {s : St} {tmps : Array Value} (W : WRel F ε s.hp w) (ht : TRel F ε s.tm tmps) {rs : List RV} {vs : List AV} (hc : chkRes P fn.results.toList rs = true) (hr : Ab.results s rs = some vs) :
    ∃ u, (Go.results fn tmps).run P w = .ok u w ∧ VRel F ε (oneOf vs) u := by
  obtain ⟨us, e1, e2⟩ := results_rel (P := P) W ht hc hr
  refine ⟨if h : us.toArray.size = 1 then us.toArray[0] else .tuple us.toArray, ?_, ?_⟩
  · have e : Go.results fn tmps = (do let vs ← fn.results.mapM (resOf tmps); pure (if h : vs.size = 1 then vs[0] else .tuple vs)) := rfl
    rw [e, Array.mapM_eq_mapM_toList]
    simp only [Sem.run_bind, Sem.run_map, e1, Result.andThen_ok, Sem.run_pure]
  · cases vs with
    | nil =>
      have := e2.nil_inv; subst this
      exact mk_tup (LRel.nil _ _)
    | cons v vs =>
      obtain ⟨u, us', rfl, h1, h2⟩ := e2.cons_inv
      cases vs with
      | nil =>
        have := h2.nil_inv; subst this
        exact h1
      | cons v2 vs =>
        obtain ⟨u2, us2, rfl, h3, h4⟩ := h2.cons_inv
        rw [dif_neg (by simp)]
        exact mk_tup e2
def chkF (P : Program) (f : FuncId) (a : AFun) : Bool :=
  match P.funcs[f]? with
  | some fn => decide (fn.name ≠ "runtime.NumGoroutine") && (match fn.body with | some c => chkC P fn.ntmps a.body c | none => false) && chkRes P fn.results.toList a.res
  | none => false
theorem enter_rel {args : List AV} {us : List Value} (ha : LRel F ε args us) (n : Nat) : TRel F ε (enter args h).tm (us.toArray ++ Array.replicate n undef) := by
  have key : ∀ (args : List AV) (k t : Nat), look t ((args.zipIdx k).map fun (v, i) => (i, v)) = if k ≤ t then (args[t - k]?).getD .dead else .dead := by
    intro args
    induction args with
    | nil => intro k t; simp [look]
    | cons v l ih =>
      intro k t
      simp only [List.zipIdx_cons, List.map_cons, look]
      rw [ih]
      by_cases h1 : t = k
      · subst h1; simp
      · rw [if_neg h1]
        by_cases h2 : k + 1 ≤ t
        · rw [if_pos h2, if_pos (by omega), show t - k = (t - (k + 1)) + 1 by omega]; simp
        · rw [if_neg h2, if_neg (by omega)]
  intro t
  show VRel F ε (look t ((args.zipIdx 0).map _)) _
  rw [key args 0 t, if_pos (Nat.zero_le _), Nat.sub_zero]
  cases hg : args[t]? with
  | none => exact .dead _
  | some v =>
    have hlt : t < us.length := by rw [ha.1]; exact (List.getElem?_eq_some_iff.1 hg).1
    have : (us.toArray ++ Array.replicate n undef).getD t undef = us[t] := by
      rw [Array.getD_eq_getD_getElem?, Array.getElem?_append_left (by simpa using hlt)]
      simp [hlt]
    rw [this]
    exact ha.2 t v _ hg (by simp [hlt])
/-- What is given by a proof of its own. -/
def PrimOk (P : Program) (f : FuncId) (p : List AV → Heap → Option (AV × Heap)) : Prop :=
  ∀ args h v h', p args h = some (v, h') → ∀ F ε w us, WRel F ε h w → LRel F ε args us → Answers P f us.toArray F ε h w v h'
def TableOk (P : Program) (T : FuncId → Option Entry) : Prop :=
  ∀ f e, T f = some e → match e with | .code a => chkF P f a = true | .prim p => PrimOk P f p
theorem callN_sound {T : FuncId → Option Entry} (hm : P.follows .mixedOrders = true) (hT : TableOk P T) : ∀ n, Sound P (callN T n) := by
  intro n
  induction n with
  | zero => intro f args h v h' hr; cases hr
  | succ n ih =>
    intro f args h v h' hr
    simp only [callN] at hr
    split at hr
    · cases hr
    · rename_i p hp
      exact hT f _ hp args h v h' hr
    · rename_i a hp
      have hc := hT f _ hp
      simp only [chkF] at hc
      split at hc
      · rename_i fn hfn
        simp only [Bool.and_eq_true, decide_eq_true_eq] at hc
        obtain ⟨⟨hname, hbody⟩, hres⟩ := hc
        split at hbody
        · rename_i c hb
          intro F ε w us W ha
          refine .inl ⟨⟨fn, hfn, hname, by rw [hb]; simp⟩, ?_⟩
          split at hr
          · rename_i r hex
            obtain ⟨ex, s1⟩ := r
            refine calls_of_wp hfn hb ?_
            refine wp_mono (code_sound ih hm n hex hbody (Nat.le_refl _) (a := { tmps := us.toArray ++ Array.replicate (fn.ntmps - us.toArray.size) undef, defers := [] }) W (enter_rel ha _) (by simp; omega)) fun e a1 w1 q => ?_
            obtain ⟨hq, F1, ε1, p1, t1, _, d1⟩ := q
            unfold finish at hr
            have fin : (match Ab.results s1 a.res with
                | none => none
                | some vs =>
                  let v := match vs with | [v] => v | vs => .tup vs
                  if a.frz then some (gc h.length (v.frz s1.hp) (s1.hp.dropAll (v.taken s1.hp))) else some (gc h.length v s1.hp)) = some (v, h') →
                a1.defers = [] ∧ ∃ v', (Go.results fn a1.tmps).run P w1 = .ok v' w1 ∧ ∃ u, Ending.returned v' = .returned u ∧ ∃ F' ε', Post F ε h w F' ε' h' w1 ∧ VRel F' ε' v u := by
              intro hr
              split at hr
              · cases hr
              · rename_i vs hvs
                obtain ⟨u, ru, rv⟩ := results_run (P := P) p1.W t1 hres hvs
                refine ⟨d1, u, ru, u, rfl, ?_⟩
                change (if a.frz then some (gc h.length ((oneOf vs).frz s1.hp) (s1.hp.dropAll ((oneOf vs).taken s1.hp))) else some (gc h.length (oneOf vs) s1.hp)) = some (v, h') at hr
                split at hr
                · obtain ⟨F2, W2, g2, o2, hF2⟩ := freeze_rel p1.W ((oneOf vs).taken s1.hp)
                  have rv2 := rv.frz p1.W g2.1 hF2 (fun x hx => hx)
                  have p2 : PostM h.length F1 ε1 s1.hp w1 F2 ε1 (s1.hp.dropAll ((oneOf vs).taken s1.hp)) w1 := ⟨g2, fun _ _ => rfl, by rw [dropAll_length]; exact p1.len, W2, Fr.refl _ _ _, o2⟩
                  obtain ⟨δ, p3, rv3⟩ := gc_rel (m := h.length) W2 rv2 (by rw [dropAll_length]; exact p1.len)
                  simp only [Option.some.injEq] at hr
                  rw [hr] at p3 rv3
                  exact ⟨F2, δ, ((p1.trans p2).trans p3).post, rv3⟩
                · obtain ⟨δ, p3, rv3⟩ := gc_rel (m := h.length) p1.W rv p1.len
                  simp only [Option.some.injEq] at hr
                  rw [hr] at p3 rv3
                  exact ⟨F1, δ, (p1.trans p3).post, rv3⟩
            cases ex with
            | exit i => simp at hr
            | goto i => simp at hr
            | normal =>
              cases e <;> simp only [exRel] at hq
              exact fin hr
            | ret =>
              cases e <;> simp only [exRel] at hq
              exact fin hr
          · cases hr
        · cases hbody
      · cases hc
theorem XC_sound {T : FuncId → Option Entry} (hm : P.follows .mixedOrders = true) (hT : TableOk P T) : Sound P (XC T) := by
  intro f args h v h' hr
  obtain ⟨n, hn⟩ := XC_some hr
  exact callN_sound hm hT n f args h v h' hn
end
end Go.Ab
