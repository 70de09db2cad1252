/- slices.Insert at one element: the walk. -/
import Derived.Test.YtgjconibaflaaaaGreatDoorAbInsert
import Derived.Test.YtgjconibaflaaaaGreatDoorAbPrim
namespace Go.Ab
open Go
set_option linter.unusedVariables false
set_option linter.unusedSimpArgs false
namespace Ins
def o (d : Nat) (op : AOp) : AO := ⟨some d, op, none⟩
def I0 (k : Nat) : AC := .region [o 6 (.mv (.c (.sl0 k)))] none [0, 1, 2]
def I1 (k : Nat) : AC := .region [o 10 (.mv (.t 0)), o 11 (.mv (.t 1)), o 12 (.slice k (.t 10) (some (.t 11)) none none)] none [0, 1, 2]
def I2 : AC := .region [o 13 (.mv (.t 2)), o 14 (.len .sl (.t 13)), o 7 (.mv (.t 14))] none [0, 1, 2, 7]
def I3 : AC := .seq (.region [o 15 (.mv (.t 7)), o 16 (.bin .eql .val (.t 15) (.c (.f (.int .i64 0))))] none [0, 1, 2, 7, 16]) (.cond (.t 16) (.seq (.region [o 17 (.mv (.t 0)), o 6 (.mv (.t 17))] none [6]) .ret) .skip)
def I5 : AC := .region [o 18 (.mv (.t 0)), o 19 (.len .sl (.t 18)), o 8 (.mv (.t 19))] none [0, 1, 2, 7, 8]
def I6 (k bytes : Nat) : AC := .seq (.region [o 20 (.mv (.t 1)), o 21 (.mv (.t 8)), o 22 (.bin .eql .val (.t 20) (.t 21))] none [0, 1, 2, 7, 8, 22]) (.cond (.t 22) (.seq (.region [o 23 (.mv (.t 0)), o 24 (.mv (.t 2)), o 25 (.append k bytes (.t 23) (.t 24)), o 6 (.mv (.t 25))] none [6]) .ret) .skip)
def I10 (k : Nat) : AC := .seq (.region [o 41 (.mv (.t 9)), o 42 (.mv (.t 1)), o 43 (.slice k (.t 41) (some (.t 42)) none none), o 44 (.mv (.t 2)), o 45 (.copy k (.t 43) (.t 44))] none [0, 1, 7, 9])
  (.seq (.region [o 46 (.mv (.t 9)), o 47 (.mv (.t 1)), o 48 (.mv (.t 7)), o 49 (.bin .add .val (.t 47) (.t 48)), o 50 (.slice k (.t 46) (some (.t 49)) none none), o 51 (.mv (.t 0)), o 52 (.mv (.t 1)), o 53 (.slice k (.t 51) (some (.t 52)) none none), o 54 (.copy k (.t 50) (.t 53))] (some []) [9])
  (.seq (.region [o 55 (.mv (.t 9)), o 6 (.mv (.t 55))] none [6]) .ret))
def L14 (k : Nat) : List AO := [o 61 (.mv (.t 2)), o 62 (.mv (.t 0)), o 63 (.mv (.t 1)), o 64 (.mv (.t 7)), o 65 (.bin .add .val (.t 63) (.t 64)), o 66 (.slice k (.t 62) (some (.t 65)) none none)]
def I15 (k : Nat) : AC := .seq (.region [o 69 (.mv (.t 0)), o 70 (.mv (.t 1)), o 71 (.mv (.t 7)), o 72 (.bin .add .val (.t 70) (.t 71)), o 73 (.slice k (.t 69) (some (.t 72)) none none), o 74 (.mv (.t 0)), o 75 (.mv (.t 1)), o 76 (.slice k (.t 74) (some (.t 75)) none none), o 77 (.copy k (.t 73) (.t 76))] (some []) [0, 1, 2])
    (.seq (.region [o 78 (.mv (.t 0)), o 79 (.mv (.t 1)), o 80 (.slice k (.t 78) (some (.t 79)) none none), o 81 (.mv (.t 2)), o 82 (.copy k (.t 80) (.t 81))] none [0])
    (.seq (.region [o 83 (.mv (.t 0)), o 6 (.mv (.t 83))] none [6]) .ret))
def L8 : List AO := [o 26 (.mv (.t 8)), o 27 (.mv (.t 7)), o 28 (.bin .add .val (.t 26) (.t 27)), o 29 (.mv (.t 0))]
def L9 (k : Nat) : List AO := [o 32 (.mv (.t 0)), o 33 (.mv (.t 1)), o 34 (.slice k (.t 32) none (some (.t 33)) none), o 35 (.mv (.t 8)), o 36 (.mv (.t 7)), o 37 (.bin .add .val (.t 35) (.t 36)), o 38 (.mv (.t 1)), o 39 (.bin .sub .val (.t 37) (.t 38))]
def L13 : List AO := [o 56 (.mv (.t 0)), o 57 (.mv (.t 8)), o 58 (.mv (.t 7)), o 59 (.bin .add .val (.t 57) (.t 58))]
def chkCap (P : Program) (o : Oper) : Bool := decide (o.dst = some 30) && o.guard.isNone && (match o.op with
  | .call { callee := .builtin .cap, args, argTypes } => (match args.toList, argTypes.toList with
    | [.tmp 29], [t] => (match P.underlying t with | some (.slice _) => true | _ => false)
    | _, _ => false)
  | _ => false)
def chkApp (P : Program) (k bytes : Nat) (o : Oper) : Bool := decide (o.dst = some 40) && o.guard.isNone && (match o.op with
  | .call { callee := .builtin .append, args, argTypes } => (match args.toList, argTypes.toList with
    | [.tmp 34, .tmp 39], [t, tn] => (match P.underlying t, P.underlying tn with
      | some (.slice e), some (.int _) => (match P.info? e with
        | some i => i.size == k && i.bytes == bytes && (match i.zero with | some z => z.cells.size == k | none => false)
        | none => false)
      | _, _ => false)
    | _, _ => false)
  | _ => false)
def chkSlx (P : Program) (k : Nat) (o : Oper) : Bool := decide (o.dst = some 60) && o.guard.isNone && (match o.op with
  | .slice t (.tmp 56) none (some (.tmp 59)) none => (match P.underlying t with | some (.slice e) => sizeIs P e k | _ => false)
  | _ => false)
def chkOvl (fo : FuncId) (o : Oper) : Bool := decide (o.dst = some 67) && o.guard.isNone && (match o.op with
  | .call { callee := .value (.func g), args, argTypes } => g == fo && (match args.toList with | [.tmp 61, .tmp 66] => true | _ => false)
  | _ => false)
def chkPre (P : Program) (N : Nat) (ops : Array Oper) : List Oper → List AO → Option (List Oper)
  | l, [] => some l
  | x :: l, y :: r => if chkO P N ops x y then chkPre P N ops l r else none
  | [], _ :: _ => none
def chk (P : Program) (f : FuncId) (k bytes fo : Nat) : Bool :=
  match P.funcs[f]? with
  | some fn => decide (fn.name ≠ "runtime.NumGoroutine") && chkRes P fn.results.toList [.tmp 6] && decide (84 ≤ fn.ntmps) && decide (0 < k) && decide (bytes ≤ 1024) && (match fn.body with
    | some (.seq r0 (.seq r1 (.seq r2 (.seq r3 (.seq r5 (.seq r6 (.seq (.seq (.region _ os8 false) (.cond (.tmp 31) (.seq (.region _ os9 false) r10) .skip)) (.seq (.region _ os13 false) (.seq (.seq (.region _ os14 false) (.cond (.tmp 68) r15 .skip)) rest))))))))) =>
      chkC P fn.ntmps (I0 k) r0 && chkC P fn.ntmps (I1 k) r1 && chkC P fn.ntmps I2 r2 && chkC P fn.ntmps I3 r3 && chkC P fn.ntmps I5 r5 && chkC P fn.ntmps (I6 k bytes) r6 && chkC P fn.ntmps (I10 k) r10 && chkC P fn.ntmps (I15 k) r15 &&
      (match chkPre P fn.ntmps os8 os8.toList L8 with | some [oC, oG] => chkCap P oC && chkO P fn.ntmps os8 oG (o 31 (.bin .gtr .val (.t 28) (.t 30))) | _ => false) &&
      (match chkPre P fn.ntmps os9 os9.toList (L9 k) with | some [oA, oM] => chkApp P k bytes oA && chkO P fn.ntmps os9 oM (o 9 (.mv (.t 40))) | _ => false) &&
      (match chkPre P fn.ntmps os13 os13.toList L13 with | some [oS, oM] => chkSlx P k oS && chkO P fn.ntmps os13 oM (o 0 (.mv (.t 60))) | _ => false) &&
      (match chkPre P fn.ntmps os14 os14.toList (L14 k) with | some [oV, oN] => chkOvl fo oV && chkO P fn.ntmps os14 oN (o 68 (.not (.t 67))) | _ => false)
    | _ => false)
  | none => false
end Ins
section
variable {P : Program} {X : CallSem} {N m : Nat} {F0 : Frz} {ε0 : Env} {h0 : Heap} {w0 : World} {ds : List Deferred} {s s' : St} {a : Act} {w : World} {ops : Array Oper} {o : Oper}
theorem At.seqN (hX : Sound P X) (hm : P.follows .mixedOrders = true) {n : Nat} {ac : AC} {c c2 : Code} (A : At N m F0 ε0 h0 w0 ds s a w) (hr : exec X m n ac s = some (.normal, s')) (hc : chkC P N ac c = true)
    {Q : Exit → Act → World → Prop} (hQ : ∀ a' w', At N m F0 ε0 h0 w0 ds s' a' w' → c2.wp P Q a' w') : (Code.seq c c2).wp P Q a w :=
  wp_seq (A.code hX hm hr hc fun e a' w' q A' => by cases e <;> simp only [exRel] at q; exact hQ a' w' A')
theorem At.seqR (hX : Sound P X) (hm : P.follows .mixedOrders = true) {n : Nat} {ac : AC} {c c2 : Code} (A : At N m F0 ε0 h0 w0 ds s a w) (hr : exec X m n ac s = some (.ret, s')) (hc : chkC P N ac c = true)
    {Q : Exit → Act → World → Prop} (hQ : ∀ a' w', At N m F0 ε0 h0 w0 ds s' a' w' → Q .ret a' w') : (Code.seq c c2).wp P Q a w :=
  wp_seq (A.code hX hm hr hc fun e a' w' q A' => by cases e <;> simp only [exRel] at q; exact hQ a' w' A')
theorem At.codeR (hX : Sound P X) (hm : P.follows .mixedOrders = true) {n : Nat} {ac : AC} {c : Code} (A : At N m F0 ε0 h0 w0 ds s a w) (hr : exec X m n ac s = some (.ret, s')) (hc : chkC P N ac c = true)
    {Q : Exit → Act → World → Prop} (hQ : ∀ a' w', At N m F0 ε0 h0 w0 ds s' a' w' → Q .ret a' w') : c.wp P Q a w :=
  A.code hX hm hr hc fun e a' w' q A' => by cases e <;> simp only [exRel] at q; exact hQ a' w' A'
theorem At.pre (hX : Sound P X) {Q : Exit → Act → World → Prop} : ∀ {l r : List Oper} {als : List AO} {s s' : St} {a : Act} {w : World}, Ins.chkPre P N ops l als = some r → runOps X als s = some s' → At N m F0 ε0 h0 w0 ds s a w →
    (∀ a' w', At N m F0 ε0 h0 w0 ds s' a' w' → wpList P ops Q r a' w') → wpList P ops Q l a w
  | l, r, [], s, s', a, w, hc, hr, A, hQ => by
    simp only [Ins.chkPre, Option.some.injEq] at hc
    simp only [runOps, Option.some.injEq] at hr
    subst hc hr
    exact hQ a w A
  | [], r, _ :: _, s, s', a, w, hc, hr, A, hQ => by simp [Ins.chkPre] at hc
  | x :: l, r, y :: als, s, s', a, w, hc, hr, A, hQ => by
    simp only [Ins.chkPre] at hc
    split at hc <;> first | (cases hc; done) | skip
    rename_i h1
    simp only [runOps] at hr
    split at hr <;> first | (cases hr; done) | skip
    rename_i s1 h2
    simp only [wpList]
    exact A.op hX h1 h2 fun a' w' A' => At.pre hX hc hr A' hQ
theorem cont_vec {h : Heap} {id k : Nat} {b : Blk} (hat : h.at id = some b) (hb : b.width = some k) : cont h (.vec id) = some b := by
  simp only [cont, hat]
  cases b <;> first | rfl | cases hb
theorem cont_sub {h : Heap} {id k off n : Nat} {b : Blk} (hat : h.at id = some b) (hb : b.width = some k) : cont h (.sub id off n) = some ((b.drop off).take n) := by
  simp only [cont, hat]
  cases b <;> first | rfl | cases hb
theorem over_rows {k o : Nat} {R : List (List AV)} {xs : Blk} (hx : xs.width = some k) (hl : o + (ofB xs).length ≤ R.length) : Blk.over (.rows k R) o xs = some (.rows k (splice R o (ofB xs))) := by
  cases xs with
  | frows q rs =>
    cases hx
    simp only [Blk.over]
    rw [if_pos ⟨trivial, by simpa [ofB, ofF] using hl⟩]
    rfl
  | rows q rs =>
    cases hx
    simp only [Blk.over]
    rw [if_pos ⟨trivial, by simpa [ofB] using hl⟩]
    rfl
  | map es => cases hx
  | iter t p => cases hx
theorem whole_part {b : Blk} (hb : b.whole = true) (o n : Nat) : ((b.drop o).take n).whole = true := by
  cases b with
  | rows k rs =>
    simp only [Blk.drop, Blk.take, Blk.whole, List.all_eq_true] at hb ⊢
    exact fun r hr => hb r (List.mem_of_mem_drop (List.mem_of_mem_take hr))
  | _ => rfl
theorem wrap64 {x : Int} (h0 : 0 ≤ x) (h1 : x < 2 ^ 60) : IntKind.i64.wrap x = x := by rw [IntKind.wrap_i64]; omega
end
end Go.Ab
