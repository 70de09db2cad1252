/- What an operation looks at, and what it leaves alone. -/
import Derived.Test.YtgjconibaflaaaaGreatDoorAbDisp
namespace Go.Ab
open Go
set_option linter.unusedVariables false
set_option linter.unusedSimpArgs false

def AOp.axs : AOp → List AX
  | .mv x => [x]
  | .pick c a b => [c, a, b]
  | .new _ _ => []
  | .box x => [x]
  | .build _ parts => parts.map fun p => p.2.2
  | .bslice _ parts => parts
  | .load _ a => [a]
  | .store _ a x => [a, x]
  | .nilchk x => [x]
  | .bin _ _ x y => [x, y]
  | .not x => [x]
  | .neg x => [x]
  | .conv _ x => [x]
  | .mkfn _ a b => a ++ b
  | .mkmap => []
  | .mkslice _ _ n => [n]
  | .slice _ x lo hi mx => x :: (lo.toList ++ hi.toList ++ mx.toList)
  | .faddr x _ => [x]
  | .iaddr _ _ x i => [x, i]
  | .field _ _ x => [x]
  | .index _ _ _ x i => [x, i]
  | .lookup _ _ m k _ => [m, k]
  | .mapset _ m k v => [m, k, v]
  | .extr x _ => [x]
  | .len _ x => [x]
  | .append _ _ s x => [s, x]
  | .copy _ s x => [s, x]
  | .clear _ x => [x]
  | .delete _ m k => [m, k]
  | .min xs => xs
  | .max xs => xs
  | .complex x y => [x, y]
  | .real x => [x]
  | .imag x => [x]
  | .call _ xs => xs
  | .callv x xs => x :: xs
  | .prim _ xs => xs
  | .bad => []
section
variable {X : CallSem} {s s' s2 : St} {v : AV} {Z : Nat → Prop}

/-- Of the heap, the blocks in Z alone. -/
structure Cut (Z : Nat → Prop) (h g : Heap) : Prop where
  len : g.length = h.length
  inn : ∀ id, Z id → g.at id = h.at id
  out : ∀ id, ¬ Z id → g.at id = none
/-- What is handed back in the cut heap. -/
structure CutR (Z : Nat → Prop) (h h' g' : Heap) : Prop where
  len : g'.length = h'.length
  grow : h.length ≤ h'.length
  inn : ∀ id, (Z id ∨ h.length ≤ id) → g'.at id = h'.at id
  out : ∀ id, ¬ Z id → id < h.length → g'.at id = none
  rest : ∀ id, ¬ Z id → id < h.length → h'.at id = h.at id
theorem at_none {h : Heap} {id : Nat} (hid : h.length ≤ id) : h.at id = none := by
  cases hh : h.at id with
  | none => rfl
  | some B => have := Heap.at_lt hh; omega
theorem Cut.same {h g : Heap} (c : Cut Z h g) : CutR Z h h g :=
  ⟨c.len, Nat.le_refl _, fun id hid => by
    by_cases hz : Z id
    · exact c.inn id hz
    · rw [c.out id hz, at_none (hid.resolve_left hz)], fun id hz _ => c.out id hz, fun _ _ _ => rfl⟩
theorem CutR.alloc {h h' g' : Heap} (c : CutR Z h h' g') (b : Option Blk) : CutR Z h (h' ++ [b]) (g' ++ [b]) := by
  refine ⟨by simp [c.len], by have := c.grow; simp; omega, fun id hid => ?_, fun id hz hid => ?_, fun id hz hid => ?_⟩
  · rw [Heap.at_append, Heap.at_append, c.len]
    split
    · exact c.inn id hid
    · rfl
  · rw [Heap.at_append, c.len, if_pos (by have := c.grow; omega)]; exact c.out id hz hid
  · rw [Heap.at_append, if_pos (by have := c.grow; omega)]; exact c.rest id hz hid
theorem CutR.set {h h' g' : Heap} (c : CutR Z h h' g') (b : Option Blk) {id : Nat} (hz : Z id) : CutR Z h (h'.set id b) (g'.set id b) := by
  refine ⟨by simp [c.len], by simpa using c.grow, fun i hi => ?_, fun i hi hid => ?_, fun i hi hid => ?_⟩
  · rw [Heap.at_set, Heap.at_set, c.len]
    split
    · rfl
    · exact c.inn i hi
  · rw [Heap.at_set, if_neg (by rintro ⟨rfl, _⟩; exact hi hz)]; exact c.out i hi hid
  · rw [Heap.at_set, if_neg (by rintro ⟨rfl, _⟩; exact hi hz)]; exact c.rest i hi hid
theorem cont_cut {h g : Heap} (c : Cut Z h g) {x : AV} (hx : ∀ id ∈ idOf x, Z id) : cont g x = cont h x := by
  cases x with
  | vec id => simp only [cont, c.inn id (hx id (by simp [idOf]))]
  | sub id _ _ => simp only [cont, c.inn id (hx id (by simp [idOf]))]
  | f v => cases v <;> rfl
  | _ => rfl
theorem cells_cut {h g : Heap} (c : Cut Z h g) {x : AV} (hx : ∀ id ∈ idOf x, Z id) (n : Nat) : cellsAt g x n = cellsAt h x n := by
  cases x with
  | ptr id _ _ => simp only [cellsAt, c.inn id (hx id (by simp [idOf]))]
  | _ => rfl
theorem setCells_cut {h g : Heap} (c : Cut Z h g) {x : AV} (hx : ∀ id ∈ idOf x, Z id) {cs : List AV} {h' : Heap} (hs : setCells h x cs = some h') : ∃ g', setCells g x cs = some g' ∧ CutR Z h h' g' := by
  cases x with
  | ptr id i j =>
    have hz := hx id (by simp [idOf])
    simp only [setCells, c.inn id hz] at hs ⊢
    split at hs
    · rename_i k rs hat
      try simp only [hat]
      split at hs
      · rename_i r hr
        try simp only [hr]
        split at hs
        · rename_i hle
          cases hs
          rw [if_pos hle]
          exact ⟨_, rfl, c.same.set _ hz⟩
        · cases hs
      · cases hs
    · rename_i k rs hat
      try simp only [hat]
      split at hs
      · rename_i r fs hr hf
        try simp only [hr, hf]
        split at hs
        · rename_i hle
          cases hs
          rw [if_pos hle]
          exact ⟨_, rfl, c.same.set _ hz⟩
        · cases hs
      · cases hs
    · cases hs
  | _ => cases hs
theorem bound_ev {lo : Option AX} (d : Nat) (h : ∀ x ∈ lo.toList, s2.ev x = s.ev x) : bound s2 d lo = bound s d lo := by
  cases lo with
  | none => rfl
  | some x => simp only [bound, h x (by simp)]
theorem map_ev {xs : List AX} (h : ∀ x ∈ xs, s2.ev x = s.ev x) : xs.map s2.ev = xs.map s.ev := List.map_congr_left h

/-! ### Calls -/
theorem reach_cut {h g : Heap} (c : Cut Z h g) : ∀ (n : Nat) (todo seen : List Nat), (∀ x ∈ reach h n todo seen, Z x) → reach g n todo seen = reach h n todo seen
  | 0, todo, seen, _ => rfl
  | n + 1, [], seen, _ => rfl
  | n + 1, id :: todo, seen, hz => by
    simp only [reach] at hz ⊢
    split
    · rename_i hs
      rw [if_pos hs] at hz
      exact reach_cut c n todo seen hz
    · rename_i hs
      rw [if_neg hs] at hz
      cases hh : h.at id with
      | none =>
        have hg : g.at id = none := by
          by_cases hzi : Z id
          · rw [c.inn id hzi, hh]
          · exact c.out id hzi
        rw [hg]
        rw [hh] at hz
        exact reach_cut c n todo seen hz
      | some b =>
        rw [hh] at hz
        simp only at hz ⊢
        have hzi : Z id := by
          have hn := hz
          have hmem : ∀ (n : Nat) (todo seen : List Nat) x, x ∈ seen → x ∈ reach h n todo seen := by
            intro n
            induction n with
            | zero => intro todo seen x hx; exact hx
            | succ n ih =>
              intro todo seen x hx
              cases todo with
              | nil => exact hx
              | cons t todo =>
                simp only [reach]
                split
                · exact ih _ _ _ hx
                · split
                  · exact ih _ _ _ (List.mem_append.2 (.inl hx))
                  · exact ih _ _ _ hx
          exact hz id (hmem _ _ _ _ (by simp))
        rw [c.inn id hzi, hh]
        exact reach_cut c n (b.refs ++ todo) (seen ++ [id]) hz
theorem pack_cut {h g : Heap} (c : Cut Z h g) {R : List Nat} (hz : ∀ x ∈ R, Z x) (ρ) : pack g R ρ = pack h R ρ := by
  unfold pack
  exact List.map_congr_left fun x hx => by rw [c.inn x (hz x hx)]
theorem callA_cut {h g h' : Heap} (c : Cut Z h g) {f : FuncId} {args : List AV} (hz : ∀ x ∈ reach h 1000 (refsL args) [], Z x) (hr : callA X f args h = some (v, h')) : ∃ g', callA X f args g = some (v, g') ∧ CutR Z h h' g' := by
  simp only [callA] at hr ⊢
  rw [reach_cut c 1000 _ _ hz, pack_cut c hz]
  obtain ⟨Rn, Rl, _⟩ := reach_spec h 1000 (refsL args) [] List.nodup_nil (by simp)
  generalize reach h 1000 (refsL args) [] = R at *
  split at hr
  · cases hr
  · rename_i v0 k' hX0
    try simp only [hX0]
    cases hr
    rw [c.len]
    refine ⟨_, rfl, ?_⟩
    suffices key : ∀ σ, CutR Z h (unpack h R k' σ) (unpack g R k' σ) from key _
    intro σ
    obtain ⟨u1, u2, u3, u4⟩ := unpack_at h k' R σ Rn Rl
    obtain ⟨w1, w2, w3, w4⟩ := unpack_at g k' R σ Rn (fun x hx => by rw [c.len]; exact Rl x hx)
    refine ⟨by rw [u1, w1, c.len], by rw [u1]; omega, fun id hid => ?_, fun id hzid hid => ?_, fun id hzid hid => ?_⟩
    · rcases Nat.lt_or_ge id h.length with h1 | h1
      · have hzid := hid.resolve_right (by omega)
        by_cases hm : id ∈ R
        · obtain ⟨i, hi⟩ := List.getElem?_of_mem hm
          rw [u2 i id hi, w2 i id hi]
        · rw [u3 id h1 hm, w3 id (by rw [c.len]; exact h1) hm, c.inn id hzid]
      · rw [u4 id h1, w4 id (by rw [c.len]; exact h1), c.len]
    · have hm : id ∉ R := fun hm => hzid (hz id hm)
      rw [w3 id (by rw [c.len]; exact hid) hm]; exact c.out id hzid
    · have hm : id ∉ R := fun hm => hzid (hz id hm)
      exact u3 id hid hm

theorem opE_keeps {ao : AOp} (hr : opE X ao s = some (v, s')) : s.hp.length ≤ s'.hp.length ∧ ∀ id, id < s.hp.length → id ∉ (foot ao s).2 → s'.hp.at id = s.hp.at id := by
  have same : s'.hp = s.hp → s.hp.length ≤ s'.hp.length ∧ ∀ id, id < s.hp.length → id ∉ (foot ao s).2 → s'.hp.at id = s.hp.at id := fun h => by rw [h]; exact ⟨Nat.le_refl _, fun _ _ _ => rfl⟩
  have app : ∀ b, s'.hp = s.hp ++ [b] → s.hp.length ≤ s'.hp.length ∧ ∀ id, id < s.hp.length → id ∉ (foot ao s).2 → s'.hp.at id = s.hp.at id := fun b h => by
    rw [h]; exact ⟨by simp, fun id hid _ => by rw [Heap.at_append, if_pos hid]⟩
  have st : ∀ i b, i ∈ (foot ao s).2 → s'.hp = s.hp.set i b → s.hp.length ≤ s'.hp.length ∧ ∀ id, id < s.hp.length → id ∉ (foot ao s).2 → s'.hp.at id = s.hp.at id := fun i b hi h => by
    rw [h]; exact ⟨by simp, fun id hid hn => by rw [Heap.at_set, if_neg (by rintro ⟨rfl, _⟩; exact hn hi)]⟩
  have sta : ∀ i b b', i ∈ (foot ao s).2 → s'.hp = s.hp.set i b ++ [b'] → s.hp.length ≤ s'.hp.length ∧ ∀ id, id < s.hp.length → id ∉ (foot ao s).2 → s'.hp.at id = s.hp.at id := fun i b b' hi h => by
    rw [h]; exact ⟨by simp, fun id hid hn => by rw [Heap.at_append, if_pos (by simpa using hid), Heap.at_set, if_neg (by rintro ⟨rfl, _⟩; exact hn hi)]⟩
  have callP : ∀ (X : CallSem) f args h', callA X f args s.hp = some (v, h') → s'.hp = h' → (foot ao s).2 = reach s.hp 1000 (refsL args) [] → s.hp.length ≤ s'.hp.length ∧ ∀ id, id < s.hp.length → id ∉ (foot ao s).2 → s'.hp.at id = s.hp.at id := by
    intro X f args h' hc he hf
    obtain ⟨_, _, cr⟩ := callA_cut (X := X) (Z := fun id => id ∈ reach s.hp 1000 (refsL args) []) (g := s.hp.zipIdx.map fun (b, i) => if i ∈ reach s.hp 1000 (refsL args) [] then b else none) (h := s.hp) ⟨by simp, fun id hid => by
      unfold Heap.at
      rw [List.getElem?_map, List.getElem?_zipIdx]
      cases hh : s.hp[id]? <;> simp [hid], fun id hid => by
      unfold Heap.at
      rw [List.getElem?_map, List.getElem?_zipIdx]
      cases hh : s.hp[id]? <;> simp [hid]⟩ (fun x hx => hx) hc
    rw [he, hf]
    exact ⟨cr.grow, fun id hid hn => cr.rest id hn hid⟩
  cases ao with
  | new k z => simp only [opE] at hr; split at hr <;> first | (cases hr; done) | (cases hr; exact app _ rfl)
  | box x => simp only [opE] at hr; split at hr <;> first | (cases hr; done) | (cases hr; exact app _ rfl)
  | bslice k p => simp only [opE] at hr; (repeat' (split at hr)) <;> first | (cases hr; done) | (cases hr; exact same rfl) | (cases hr; exact app _ rfl)
  | mkmap => simp only [opE] at hr; cases hr; exact app _ rfl
  | mkslice k z n => simp only [opE] at hr; (repeat' (split at hr)) <;> first | (cases hr; done) | (cases hr; exact app _ rfl)
  | store n a x =>
    simp only [opE] at hr
    split at hr <;> first | (cases hr; done) | skip
    split at hr <;> first | (cases hr; done) | skip
    split at hr <;> first | (cases hr; done) | skip
    rename_i cs hcs hn h' hs
    cases hr
    unfold setCells at hs
    split at hs <;> first | (cases hs; done) | skip
    rename_i id i j hy
    split at hs <;> first | (cases hs; done) | skip
    all_goals
      (repeat' (split at hs)) <;> first | (cases hs; done) | skip
      cases hs
      exact st id _ (by simp [foot, hy, idOf]) rfl
  | mapset str m k x =>
    simp only [opE] at hr
    split at hr <;> first | (cases hr; done) | skip
    rename_i id key hm hk
    (repeat' (split at hr)) <;> first | (cases hr; done) | skip
    cases hr
    exact st id _ (by simp [foot, hm, idOf]) rfl
  | delete str m k => simp only [opE] at hr; cases hr
  | clear z x =>
    simp only [opE] at hr
    split at hr <;> first | (cases hr; done) | skip
    · rename_i id o n hx
      (repeat' (split at hr)) <;> first | (cases hr; done) | skip
      cases hr
      exact st id _ (by simp [foot, hx, idOf]) rfl
  | append k bytes y x =>
    simp only [opE] at hr
    split at hr <;> first | (cases hr; done) | skip
    split at hr <;> first | (cases hr; done) | skip
    split at hr <;> first | (cases hr; done) | skip
    · (repeat' (split at hr)) <;> first | (cases hr; done) | skip
      cases hr
      exact app _ rfl
    · rename_i id hy
      (repeat' (split at hr)) <;> first | (cases hr; done) | skip
      cases hr
      exact sta id _ _ (by simp [foot, hy, idOf]) rfl
    · rename_i id o n hy
      (repeat' (split at hr)) <;> first | (cases hr; done) | skip
      · cases hr; exact sta id _ _ (by simp [foot, hy, idOf]) rfl
      · cases hr; exact st id _ (by simp [foot, hy, idOf]) rfl
  | copy k y x =>
    simp only [opE] at hr
    split at hr <;> first | (cases hr; done) | skip
    · rename_i xs id hxs hy
      (repeat' (split at hr)) <;> first | (cases hr; done) | skip
      cases hr
      exact st id _ (by simp [foot, hy, idOf]) rfl
    · rename_i xs id o n hxs hy
      (repeat' (split at hr)) <;> first | (cases hr; done) | skip
      cases hr
      exact st id _ (by simp [foot, hy, idOf]) rfl
  | prim p xs =>
    simp only [opE] at hr
    split at hr <;> first | (cases hr; done) | skip
    rename_i v' h' hc
    cases hr
    exact callP (fun _ => primE p) _ _ _ hc rfl rfl
  | call f xs =>
    simp only [opE] at hr
    split at hr <;> first | (cases hr; done) | skip
    rename_i v' h' hc
    cases hr
    exact callP _ _ _ _ hc rfl rfl
  | callv x xs =>
    simp only [opE] at hr
    split at hr <;> first | (cases hr; done) | skip
    rename_i f as bs hx
    split at hr <;> first | (cases hr; done) | skip
    rename_i v' h' hc
    cases hr
    exact callP _ _ _ _ hc rfl (by simp only [foot, hx])
  | _ =>
    simp only [opE] at hr
    (repeat' (split at hr)) <;> first | (cases hr; done) | (cases hr; exact same rfl)

def AOp.pureB : AOp → Bool
  | .mv .. | .pick .. | .build .. | .nilchk .. | .bin .. | .not .. | .neg .. | .conv .. | .mkfn .. | .faddr .. | .field .. | .index .. | .extr .. | .min .. | .max .. | .complex .. | .real .. | .imag .. | .bad => true
  | _ => false
theorem opE_pure {ao : AOp} (hp : ao.pureB = true) (hev : ∀ x ∈ ao.axs, s2.ev x = s.ev x) : opE X ao s2 = (opE X ao s).map fun p => (p.1, s2) := by
  cases ao <;> first | (cases hp; done) | skip
  case build z parts =>
    have : (parts.map fun (o, n, x) => (o, n, s2.ev x)) = (parts.map fun (o, n, x) => (o, n, s.ev x)) := by
      refine List.map_congr_left fun p hp => ?_
      obtain ⟨o, n, x⟩ := p
      simp only [hev x (by simp only [AOp.axs, List.mem_map]; exact ⟨_, hp, rfl⟩)]
    simp only [opE, this]
    cases fill z (parts.map fun (o, n, x) => (o, n, s.ev x)) <;> rfl
  case mkfn fn a b =>
    have h1 : a.map s2.ev = a.map s.ev := map_ev fun x hx => hev x (by simp [AOp.axs, hx])
    have h2 : b.map s2.ev = b.map s.ev := map_ev fun x hx => hev x (by simp [AOp.axs, hx])
    simp only [opE, h1, h2]
    rfl
  case min xs =>
    simp only [opE, map_ev (xs := xs) fun x hx => hev x hx]
    repeat' (first | rfl | split)
    all_goals simp_all
  case max xs =>
    simp only [opE, map_ev (xs := xs) fun x hx => hev x hx]
    repeat' (first | rfl | split)
    all_goals simp_all
  case mv x => simp only [opE, hev x (by simp [AOp.axs])]; rfl
  case pick x y z =>
    simp only [opE, hev x (by simp [AOp.axs]), hev y (by simp [AOp.axs]), hev z (by simp [AOp.axs])]
    repeat' (first | rfl | split)
    all_goals simp_all
  case nilchk x =>
    simp only [opE, hev x (by simp [AOp.axs])]
    cases s.ev x <;> rfl
  case bin op e x y =>
    simp only [opE, hev x (by simp [AOp.axs]), hev y (by simp [AOp.axs])]
    cases bin op e (s.ev x) (s.ev y) <;> rfl
  case not x =>
    simp only [opE, hev x (by simp [AOp.axs])]
    repeat' (first | rfl | split)
    all_goals simp_all
  case neg x =>
    simp only [opE, hev x (by simp [AOp.axs])]
    repeat' (first | rfl | split)
    all_goals simp_all
  case conv c x =>
    simp only [opE, hev x (by simp [AOp.axs])]
    repeat' (first | rfl | split)
    all_goals simp_all
  case faddr x o =>
    simp only [opE, hev x (by simp [AOp.axs])]
    cases s.ev x <;> rfl
  case field o agg x =>
    simp only [opE, hev x (by simp [AOp.axs])]
    repeat' (first | rfl | split)
    all_goals simp_all
  case index k al agg x i =>
    simp only [opE, hev x (by simp [AOp.axs]), hev i (by simp [AOp.axs])]
    repeat' (first | rfl | split)
    all_goals simp_all
  case extr x i =>
    simp only [opE, hev x (by simp [AOp.axs])]
    repeat' (first | rfl | split)
    all_goals simp_all
  case complex x y =>
    simp only [opE, hev x (by simp [AOp.axs]), hev y (by simp [AOp.axs])]
    repeat' (first | rfl | split)
    all_goals simp_all
  case real x =>
    simp only [opE, hev x (by simp [AOp.axs])]
    repeat' (first | rfl | split)
    all_goals simp_all
  case imag x =>
    simp only [opE, hev x (by simp [AOp.axs])]
    repeat' (first | rfl | split)
    all_goals simp_all
  case bad => rfl

theorem fmem {ao : AOp} (hz : ∀ id ∈ (foot ao s).1 ++ (foot ao s).2, Z id) {x : AV} (h : (foot ao s).1 = idOf x ∨ (foot ao s).2 = idOf x) : ∀ id ∈ idOf x, Z id := fun id hid =>
  hz id (by rcases h with h | h <;> simp [h, hid])
/-- In a heap that is cut down to what an operation looks at, it does the same. -/
theorem opE_cut {ao : AOp} (hr : opE X ao s = some (v, s')) (hev : ∀ x ∈ ao.axs, s2.ev x = s.ev x) (c : Cut Z s.hp s2.hp) (hz : ∀ id ∈ (foot ao s).1 ++ (foot ao s).2, Z id) :
    ∃ s2', opE X ao s2 = some (v, s2') ∧ CutR Z s.hp s'.hp s2'.hp := by
  have pure : ao.pureB = true → s'.hp = s.hp → ∃ s2', opE X ao s2 = some (v, s2') ∧ CutR Z s.hp s'.hp s2'.hp := fun hp hh => by
    refine ⟨s2, ?_, by rw [hh]; exact c.same⟩
    rw [opE_pure hp hev, hr]; rfl
  have hl := c.len
  cases ao with
  | new k z =>
    simp only [opE] at hr ⊢
    split at hr
    · rename_i h; cases hr; rw [if_pos h, hl]; exact ⟨_, rfl, c.same.alloc _⟩
    · cases hr
  | box x =>
    simp only [opE, hev x (by simp [AOp.axs])] at hr ⊢
    split at hr
    · rename_i cs h; cases hr; try simp only [h]
      rw [hl]; exact ⟨_, rfl, c.same.alloc _⟩
    · cases hr
  | bslice k p =>
    simp only [opE, map_ev (xs := p) fun x hx => hev x hx] at hr ⊢
    cases p with
    | nil => cases hr; exact ⟨_, rfl, c.same⟩
    | cons y ys =>
      simp only at hr ⊢
      split at hr
      · rename_i cs h; cases hr; try simp only [h]
        rw [hl]; exact ⟨_, rfl, c.same.alloc _⟩
      · cases hr
  | mkmap => simp only [opE] at hr ⊢; cases hr; rw [hl]; exact ⟨_, rfl, c.same.alloc _⟩
  | mkslice k z n =>
    simp only [opE, hev n (by simp [AOp.axs])] at hr ⊢
    split at hr
    · rename_i n' h
      try simp only [h]
      split at hr
      · rename_i h2; cases hr; rw [if_pos h2, hl]; exact ⟨_, rfl, c.same.alloc _⟩
      · cases hr
    · cases hr
  | load agg x =>
    simp only [opE, hev x (by simp [AOp.axs]), cells_cut c (fmem hz (.inl rfl))] at hr ⊢
    split at hr
    · rename_i cs h
      try simp only [h]
      split at hr
      · rename_i v' h2; cases hr; try simp only [h2]
        exact ⟨_, rfl, c.same⟩
      · cases hr
    · cases hr
  | store n y x =>
    simp only [opE, hev x (by simp [AOp.axs]), hev y (by simp [AOp.axs])] at hr ⊢
    split at hr
    · rename_i cs h
      try simp only [h]
      split at hr
      · rename_i hn
        try rw [if_pos hn]
        split at hr
        · rename_i h' hs
          cases hr
          obtain ⟨g', e1, e2⟩ := setCells_cut c (fmem hz (.inr rfl)) hs
          rw [e1]
          exact ⟨_, rfl, e2⟩
        · cases hr
      · cases hr
    · cases hr
  | slice k x lo hi mx =>
    have hx := hev x (by simp [AOp.axs])
    have hb : ∀ d, bound s2 d lo = bound s d lo := fun d => bound_ev d fun y hy => hev y (by simp [AOp.axs, hy])
    have hb2 : ∀ d, bound s2 d hi = bound s d hi := fun d => bound_ev d fun y hy => hev y (by simp [AOp.axs, hy])
    have hb3 : hi.map (fun y => asInt (s2.ev y)) = hi.map (fun y => asInt (s.ev y)) := by
      cases hi with
      | none => rfl
      | some y => simp [hev y (by simp [AOp.axs])]
    have hf : ∀ id ∈ idOf (s.ev x), Z id := fmem hz (.inl rfl)
    have key : opE X (.slice k x lo hi mx) s2 = (opE X (.slice k x lo hi mx) s).map fun p => (p.1, s2) := by
      cases mx with
      | some m =>
        simp only [opE, hx, hb, hb2, hb3, hev m (by simp [AOp.axs])]
        repeat' (first | rfl | split)
        all_goals simp_all
      | none =>
        simp only [opE, hx, hb, hb2]
        cases hy : s.ev x with
        | vec id =>
          rw [hy] at hf
          simp only [c.inn id (hf id (by simp [idOf]))]
          repeat' (first | rfl | split)
          all_goals simp_all
        | sub id o n =>
          rw [hy] at hf
          simp only [c.inn id (hf id (by simp [idOf]))]
          repeat' (first | rfl | split)
          all_goals simp_all
        | _ =>
          repeat' (first | rfl | split)
          all_goals simp_all
    have hsame : s'.hp = s.hp := by
      simp only [opE] at hr
      (repeat' (split at hr)) <;> first | (cases hr; done) | (cases hr; rfl)
    exact ⟨s2, by rw [key, hr]; rfl, by rw [hsame]; exact c.same⟩
  | iaddr k al x i =>
    have hx := hev x (by simp [AOp.axs])
    have hi := hev i (by simp [AOp.axs])
    have key : opE X (.iaddr k al x i) s2 = (opE X (.iaddr k al x i) s).map fun p => (p.1, s2) := by
      cases al with
      | some m =>
        simp only [opE, hx, hi]
        repeat' (first | rfl | split)
        all_goals simp_all
      | none =>
        have hf : ∀ id ∈ idOf (s.ev x), Z id := fmem hz (.inl rfl)
        simp only [opE, hx, hi]
        cases hy : s.ev x with
        | vec id =>
          rw [hy] at hf
          simp only [c.inn id (hf id (by simp [idOf]))]
          repeat' (first | rfl | split)
          all_goals simp_all
        | sub id o n =>
          rw [hy] at hf
          simp only [c.inn id (hf id (by simp [idOf]))]
          repeat' (first | rfl | split)
          all_goals simp_all
        | _ =>
          repeat' (first | rfl | split)
          all_goals simp_all
    have hsame : s'.hp = s.hp := by
      simp only [opE] at hr
      (repeat' (split at hr)) <;> first | (cases hr; done) | (cases hr; rfl)
    exact ⟨s2, by rw [key, hr]; rfl, by rw [hsame]; exact c.same⟩
  | len lk x =>
    have hx := hev x (by simp [AOp.axs])
    have hf : ∀ id ∈ idOf (s.ev x), Z id := fmem hz (.inl rfl)
    have key : opE X (.len lk x) s2 = (opE X (.len lk x) s).map fun p => (p.1, s2) := by
      simp only [opE, hx]
      cases hy : s.ev x with
      | vec id =>
        rw [hy] at hf
        cases lk <;> first | rfl | (simp only [c.inn id (hf id (by simp [idOf]))]; repeat' (first | rfl | split))
      | mp id =>
        rw [hy] at hf
        cases lk <;> first | rfl | (simp only [c.inn id (hf id (by simp [idOf]))]; repeat' (first | rfl | split))
      | f z => cases lk <;> cases z <;> rfl
      | _ => cases lk <;> rfl
    have hsame : s'.hp = s.hp := by
      simp only [opE] at hr
      (repeat' (split at hr)) <;> first | (cases hr; done) | (cases hr; rfl)
    exact ⟨s2, by rw [key, hr]; rfl, by rw [hsame]; exact c.same⟩
  | lookup str z m k ok =>
    have hf : ∀ id ∈ idOf (s.ev m), Z id := fmem hz (.inl rfl)
    have key : opE X (.lookup str z m k ok) s2 = (opE X (.lookup str z m k ok) s).map fun p => (p.1, s2) := by
      simp only [opE, hev m (by simp [AOp.axs]), hev k (by simp [AOp.axs])]
      cases hk : keyV (s.ev k) with
      | none => rfl
      | some key =>
        cases hy : s.ev m with
        | mp id =>
          rw [hy] at hf
          simp only [c.inn id (hf id (by simp [idOf]))]
          repeat' (first | rfl | split)
          all_goals simp_all
        | f z => cases z <;> rfl
        | _ => rfl
    have hsame : s'.hp = s.hp := by
      simp only [opE] at hr
      (repeat' (split at hr)) <;> first | (cases hr; done) | (cases hr; rfl)
    exact ⟨s2, by rw [key, hr]; rfl, by rw [hsame]; exact c.same⟩
  | mapset str m k x =>
    have hf : ∀ id ∈ idOf (s.ev m), Z id := fmem hz (.inr rfl)
    simp only [opE, hev m (by simp [AOp.axs]), hev k (by simp [AOp.axs]), hev x (by simp [AOp.axs])] at hr ⊢
    split at hr
    · rename_i id key hm hk
      rw [hm] at hf
      have hzi := hf id (by simp [idOf])
      simp only [c.inn id hzi]
      split at hr
      · rename_i es hat
        try simp only [hat]
        split at hr
        · rename_i hks; cases hr; rw [if_pos hks]; exact ⟨_, rfl, c.same.set _ hzi⟩
        · cases hr
      · cases hr
    · cases hr
  | delete str m k => simp only [opE] at hr; cases hr
  | clear z x =>
    have hf : ∀ id ∈ idOf (s.ev x), Z id := fmem hz (.inr rfl)
    have hex := hev x (by simp [AOp.axs])
    clear hz hev pure
    simp only [opE, hex] at hr ⊢
    cases hx : s.ev x with
    | sub id o n =>
      rw [hx] at hf hr
      have hzi := hf id (by simp [idOf])
      cases z with
      | nil => cases hr
      | cons z0 zs =>
        simp only [c.inn id hzi] at hr ⊢
        split at hr
        · rename_i b hat
          try simp only [hat]
          split at hr
          · rename_i b' hb; cases hr; try simp only [hb]
            exact ⟨_, rfl, c.same.set _ hzi⟩
          · cases hr
        · cases hr
    | _ => rw [hx] at hr; cases z <;> cases hr
  | append k bytes y x =>
    have hfx : ∀ id ∈ idOf (s.ev x), Z id := fmem hz (.inl rfl)
    have hfy : ∀ id ∈ idOf (s.ev y), Z id := fmem hz (.inr rfl)
    simp only [opE, hev x (by simp [AOp.axs]), hev y (by simp [AOp.axs]), cont_cut c hfx] at hr ⊢
    split at hr
    · cases hr
    · rename_i xs hxs
      try simp only [hxs]
      split at hr
      · rename_i hcd
        try rw [if_pos hcd]
        split at hr
        · rename_i l hy
          try simp only [hy]
          split at hr
          · rename_i hl2
            try rw [if_pos hl2]
            split at hr
            · rename_i b hj; cases hr; try simp only [hj]
              rw [hl]; exact ⟨_, rfl, c.same.alloc _⟩
            · cases hr
          · cases hr
        · rename_i id hy
          rw [hy] at hfy
          have hzi := hfy id (by simp [idOf])
          try simp only [hy]
          simp only [c.inn id hzi]
          split at hr
          · rename_i b hat
            try simp only [hat]
            split at hr
            · rename_i hlim
              try rw [if_pos hlim]
              split at hr
              · rename_i b' hj; cases hr; try simp only [hj]
                rw [hl]; exact ⟨_, rfl, (c.same.set _ hzi).alloc _⟩
              · cases hr
            · cases hr
          · cases hr
        · rename_i id o n hy
          rw [hy] at hfy
          have hzi := hfy id (by simp [idOf])
          try simp only [hy]
          simp only [c.inn id hzi]
          split at hr
          · rename_i b hat
            try simp only [hat]
            split at hr
            · rename_i hlim
              try rw [if_pos hlim]
              split at hr
              · rename_i hend
                try rw [if_pos hend]
                split at hr
                · rename_i b' hj; cases hr; try simp only [hj]
                  rw [hl]; exact ⟨_, rfl, (c.same.set _ hzi).alloc _⟩
                · cases hr
              · rename_i hend
                try rw [if_neg hend]
                split at hr
                · rename_i b' hj; cases hr; try simp only [hj]
                  exact ⟨_, rfl, c.same.set _ hzi⟩
                · cases hr
            · cases hr
          · cases hr
        · cases hr
      · cases hr
  | copy k y x =>
    have hfx : ∀ id ∈ idOf (s.ev x), Z id := fmem hz (.inl rfl)
    have hfy : ∀ id ∈ idOf (s.ev y), Z id := fmem hz (.inr rfl)
    simp only [opE, hev x (by simp [AOp.axs]), hev y (by simp [AOp.axs]), cont_cut c hfx] at hr ⊢
    split at hr
    · rename_i xs id hxs hy
      rw [hy] at hfy
      have hzi := hfy id (by simp [idOf])
      simp only [c.inn id hzi]
      split at hr
      · rename_i b hat
        try simp only [hat]
        split at hr
        · rename_i hcd
          try rw [if_pos hcd]
          split at hr
          · rename_i b' hb; cases hr; try simp only [hb]
            exact ⟨_, rfl, c.same.set _ hzi⟩
          · cases hr
        · cases hr
      · cases hr
    · rename_i xs id o n hxs hy
      rw [hy] at hfy
      have hzi := hfy id (by simp [idOf])
      simp only [c.inn id hzi]
      split at hr
      · rename_i b hat
        try simp only [hat]
        split at hr
        · rename_i hcd
          try rw [if_pos hcd]
          split at hr
          · rename_i b' hb; cases hr; try simp only [hb]
            exact ⟨_, rfl, c.same.set _ hzi⟩
          · cases hr
        · cases hr
      · cases hr
    · cases hr
  | prim p xs =>
    simp only [opE, map_ev (xs := xs) fun x hx => hev x hx] at hr ⊢
    split at hr
    · rename_i v' h' hc
      cases hr
      obtain ⟨g', e1, e2⟩ := callA_cut c (fun x hx => hz x (by simp only [foot, List.nil_append]; exact hx)) hc
      rw [e1]
      exact ⟨_, rfl, e2⟩
    · cases hr
  | call f xs =>
    simp only [opE, map_ev (xs := xs) fun x hx => hev x hx] at hr ⊢
    split at hr
    · rename_i v' h' hc
      cases hr
      obtain ⟨g', e1, e2⟩ := callA_cut c (fun x hx => hz x (by simp only [foot, List.nil_append]; exact hx)) hc
      rw [e1]
      exact ⟨_, rfl, e2⟩
    · cases hr
  | callv x xs =>
    have hm : xs.map s2.ev = xs.map s.ev := map_ev fun y hy => hev y (by simp [AOp.axs, hy])
    simp only [opE, hm, hev x (by simp [AOp.axs])] at hr ⊢
    split at hr
    · rename_i f as bs hx
      try simp only [hx]
      split at hr
      · rename_i v' h' hc
        cases hr
        obtain ⟨g', e1, e2⟩ := callA_cut c (fun y hy => hz y (by simp only [foot, hx, List.nil_append]; exact hy)) hc
        rw [e1]
        exact ⟨_, rfl, e2⟩
      · cases hr
    · cases hr
  | _ =>
    refine pure rfl ?_
    simp only [opE] at hr
    (repeat' (split at hr)) <;> first | (cases hr; done) | (cases hr; rfl)
end
end Go.Ab
