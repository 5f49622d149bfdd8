/- A region that draws its order, walked in an order of ours. -/
import Derived.Test.YtecegbgebefheaaArms
import Derived.OrdersHeld
import Derived.Deep.RegionHeld3
namespace Go.Sep

section
variable {P : Program} {ops : Array Oper} {Q : Exit → Act → World → Prop} {md : Region.Mode} {S : World → Prop}

/-- A region's operations in an order of ours: the marked ones yield in every world that meets S, whoever comes up before or behind; the others come up when nobody else may. -/
def wpSched (P : Program) (ops : Array Oper) (Q : Exit → Act → World → Prop) (S : World → Prop) : List (Nat × Bool) → Act → World → Prop
  | [], a, w => Q .normal a w
  | (i, b) :: l, a, w =>
    match ops[i]? with
    | none => False
    | some o => if b then (∃ v, YieldsIf P ops S o v a ∧ S w ∧ wpSched P ops Q S l (a.put o.dst v) w) else wpOp P ops Q i (fun a' w' => S w' ∧ wpSched P ops Q S l a' w') a w

def schedB (md : Region.Mode) (ops : Array Oper) : List (Nat × Bool) → Array Bool → Bool
  | [], listed => (Region.ready md ops listed).isEmpty
  | (i, true) :: l, listed => (Region.ready md ops listed).contains i && Region.free md ops listed i && schedB md ops l (listed.setIfInBounds i true)
  | (i, false) :: l, listed => decide (Region.ready md ops listed = [i]) && schedB md ops l (listed.setIfInBounds i true)

theorem wpAnyH_sched (hs : Region.noSelect ops = true) (hQ : ∀ c a d v w, Q (.panic c) (Act.put a d v) w → Q (.panic c) a w) : ∀ (l : List (Nat × Bool)) (listed : Array Bool) (a : Act) (w : World),
    schedB md ops l listed = true → wpSched P ops Q S l a w → wpAnyH P md ops Q S l.length listed a w
  | [], listed, a, w, hB, h => ⟨by simpa [schedB] using hB, h⟩
  | (i, b) :: l, listed, a, w, hB, h => by
    unfold wpSched at h
    cases ho : ops[i]? with
    | none => simp [ho] at h
    | some o =>
      simp only [ho] at h
      cases b with
      | true =>
        simp only [schedB, Bool.and_eq_true] at hB
        obtain ⟨v, hy, hS, hl⟩ := h
        exact wpAnyH_take ho hs hB.1.2 hB.1.1 (fun c a w => hQ c a _ _ w) hy hS (wpAnyH_sched hs hQ l _ _ _ hB.2 hl)
      | false =>
        simp only [schedB, Bool.and_eq_true, decide_eq_true_eq] at hB
        simp only [Bool.false_eq_true, if_false] at h
        refine wpAnyH_all hB.1 (by simp) fun j hj => ?_
        obtain rfl : j = i := by simpa using hj
        exact wpOp_mono (fun a' w' h' => ⟨h'.1, wpAnyH_sched hs hQ l _ _ _ hB.2 h'.2⟩) h

/-- **A region that draws its order, in an order of ours.** -/
theorem wp_region_sched {id : Nat} {a : Act} {w : World} {l : List Oper} (S : World → Prop) (ord : List (Nat × Bool)) (hm : P.follows .mixedOrders = true) (hB : (Region.noSelect l.toArray && schedB .any l.toArray ord (Array.replicate l.toArray.size false) && decide (ord.length = l.length)) = true)
    (h : wpSched P l.toArray (NoPanic Q) S ord a w.drew) : (Code.region id l.toArray true).wp P Q a w := by
  simp only [Bool.and_eq_true, decide_eq_true_eq] at hB
  refine wp_region_noPanic (wp_region_held (S := S) hm ?_)
  have := wpAnyH_sched (md := .any) hB.1.1 (fun _ _ _ _ _ h => h) ord _ a w.drew hB.1.2 h
  rw [hB.2] at this
  simpa using this

theorem wpSched_nil {a : Act} {w : World} (h : Q .normal a w) : wpSched P ops (NoPanic Q) S [] a w := h

theorem wpSched_take {a : Act} {w : World} {i : Nat} {o : Oper} {l : List (Nat × Bool)} {v : Value} (ho : ops[i]? = some o) (hw : Region.wanted o (yielded ops a.tmps) = true) (hr : ∀ w, S w → (execOp a.eval o).run P w = .ok (.value v) w) (hS : S w)
    (h : wpSched P ops Q S l (a.put o.dst v) w) : wpSched P ops Q S ((i, true) :: l) a w := by
  unfold wpSched
  simp only [ho, if_true]
  exact ⟨v, .inl ⟨hw, hr⟩, hS, h⟩

theorem wpSched_pass {a : Act} {w : World} {i : Nat} {o : Oper} {l : List (Nat × Bool)} (ho : ops[i]? = some o) (hw : Region.wanted o (yielded ops a.tmps) = false) (hS : S w)
    (h : wpSched P ops Q S l (a.put o.dst undef) w) : wpSched P ops Q S ((i, true) :: l) a w := by
  unfold wpSched
  simp only [ho, if_true]
  exact ⟨undef, .inr ⟨hw, rfl⟩, hS, h⟩

/-- What is asked behind an operation that comes up alone. -/
def doQ (P : Program) (ops : Array Oper) (Q : Exit → Act → World → Prop) (S : World → Prop) (l : List (Nat × Bool)) : Exit → Act → World → Prop
  | .normal, a, w => S w ∧ wpSched P ops Q S l a w
  | e, a, w => Q e a w

theorem wpSched_do {a : Act} {w : World} {i : Nat} {o : Oper} {l : List (Nat × Bool)} (ho : ops[i]? = some o) (h : wpList P ops (doQ P ops Q S l) [o] a w) : wpSched P ops Q S ((i, false) :: l) a w := by
  unfold wpSched
  simp only [ho, Bool.false_eq_true, if_false]
  unfold wpOp
  simp only [ho]
  unfold wpList at h
  have out : LetsOut (doQ P ops Q S l) → LetsOut Q := fun ⟨a, w, h⟩ => ⟨a, w, h⟩
  split
  · rename_i hw
    rw [if_pos hw] at h
    rcases h with h | ⟨h1, h2⟩
    · refine .inl ?_
      unfold Oper.wp at h ⊢
      generalize (execOp a.eval o).run P w = r at h ⊢
      cases r with
      | halt x w' => cases x <;> exact h
      | ok n w' =>
        cases n with
        | enter f args =>
          refine Calls.mono h fun e w'' he => ?_
          cases e with
          | returned v => exact he
          | panicked c => exact he
          | outgrown => exact out he
        | row r args => exact Rows.mono h fun u w'' he => he
        | _ => exact h
    · exact .inr ⟨h1, out h2⟩
  · rename_i hw
    rw [if_neg hw] at h
    exact h

theorem wpSched_one {a : Act} {w : World} {i : Nat} {l : List Oper} {ord : List (Nat × Bool)} (hi : i < l.length) (h : wpList P l.toArray (doQ P l.toArray Q S ord) ((l.drop i).take 1) a w) : wpSched P l.toArray Q S ((i, false) :: ord) a w := by
  refine wpSched_do (o := l[i]) (by simp [hi]) ?_
  have e : (l.drop i).take 1 = [l[i]] := by
    apply List.ext_getElem?
    intro j
    cases j with
    | zero => simp [hi]
    | succ j => simp; omega
  rwa [e] at h

theorem doQ_intro {a : Act} {w : World} {l : List (Nat × Bool)} (hS : S w) (h : wpSched P ops Q S l a w) : doQ P ops Q S l .normal a w := ⟨hS, h⟩

/-- The marked operations, walked one behind the other in any world that meets S. -/
theorem wpSched_seg {w : World} {l : List (Nat × Bool)} : ∀ (is : List Nat) (os : List Oper) (a : Act), is.map (ops[·]?) = os.map some → (os.all fun o => plainOp P o.op) = true → S w →
    wpQuiet P ops S (fun a' => wpSched P ops Q S l a' w) os a → wpSched P ops Q S (is.map (fun i => (i, true)) ++ l) a w
  | [], os, a, he, _, _, h => by
    cases os with
    | nil => exact h
    | cons => simp at he
  | i :: is, os, a, he, hp, hS, h => by
    cases os with
    | nil => simp at he
    | cons o os =>
      simp only [List.map_cons, List.cons.injEq] at he
      simp only [List.all_cons, Bool.and_eq_true] at hp
      unfold wpQuiet at h
      simp only [List.map_cons, List.cons_append]
      unfold wpSched
      simp only [he.1, if_true]
      split at h
      · rename_i hw
        obtain ⟨v, h1, h2⟩ := h
        refine ⟨v, .inl ⟨hw, fun w' hw' => ?_⟩, hS, wpSched_seg is os _ he.2 hp.2 hS h2⟩
        have h3 := h1 w' hw'
        unfold Oper.quietAt at h3
        generalize hr : (execOp a.eval o).run P w' = r at h3
        cases r with
        | halt x w1 => exact h3.elim
        | ok n w1 =>
          obtain ⟨u, rfl⟩ := Vals.execOp (P := P) hp.1 w' n w1 hr
          obtain ⟨rfl, rfl⟩ := h3
          rfl
      · rename_i hw
        exact ⟨undef, .inr ⟨by simpa using hw, rfl⟩, hS, wpSched_seg is os _ he.2 hp.2 hS h⟩

theorem wpSched_row {w : World} {l : List Oper} {ord : List (Nat × Bool)} (s n : Nat) {a : Act} (hn : s + n ≤ l.length) (hp : (((l.drop s).take n).all fun o => plainOp P o.op) = true) (hS : S w)
    (h : wpQuiet P l.toArray S (fun a' => wpSched P l.toArray Q S ord a' w) ((l.drop s).take n) a) : wpSched P l.toArray Q S ((List.range' s n).map (fun i => (i, true)) ++ ord) a w := by
  refine wpSched_seg (List.range' s n) ((l.drop s).take n) a ?_ hp hS h
  apply List.ext_getElem?
  intro j
  by_cases hj : j < n
  · simp [hj, List.getElem?_drop, show s + j < l.length by omega]
  · rw [List.getElem?_eq_none (by simp; omega), List.getElem?_eq_none (by simp; omega)]

variable {w0 : World} {L : List SP}

theorem wpQuiet_ld {Q : Act → Prop} {a : Act} {o : Oper} {rest : List Oper} (hw : Region.wanted o (yielded ops a.tmps) = true) {t : TypeId} {x : Operand} (hop : o.op = .load t x) {b j : Nat} (hx : a.eval x = .pointer (some ⟨b, j, none⟩))
    {xs : List Value} {T : TypeId} {mk : List Value → List SP} [F : Find L b xs T mk] (hagg : ∀ w, (isAgg t).run P w = .ok false w) {v : Value} (hv : xs[j]? = some v)
    (h : wpQuiet P ops (Holds w0 L) Q rest (a.put o.dst v)) : wpQuiet P ops (Holds w0 L) Q (o :: rest) a := by
  unfold wpQuiet
  rw [if_pos hw]
  refine ⟨v, fun w' hS' => ?_, h⟩
  unfold Oper.quietAt execOp
  simp only [hop, hx, Sem.run_bind, run_loadAt_one (hagg w') (hS'.cell b j hv), Result.andThen_ok, Sem.run_pure]
  exact ⟨rfl, rfl⟩
theorem wpQuiet_ldl {Q : Act → Prop} {a : Act} {o : Oper} {rest : List Oper} (hw : Region.wanted o (yielded ops a.tmps) = true) {t : TypeId} {x : Operand} (hop : o.op = .load t x) {b j : Nat} (hx : a.eval x = .pointer (some ⟨b, j, none⟩))
    {xs : List Value} {T : TypeId} {mk : List Value → List SP} [F : Find L b xs T mk] (hagg : ∀ w, (isAgg t).run P w = .ok false w) {v : Value} [hv : GetAt xs j v]
    (h : wpQuiet P ops (Holds w0 L) Q rest (a.put o.dst v)) : wpQuiet P ops (Holds w0 L) Q (o :: rest) a := wpQuiet_ld hw hop hx hagg hv.eq h
theorem wpQuiet_ldi {Q : Act → Prop} {a : Act} {o : Oper} {rest : List Oper} (hw : Region.wanted o (yielded ops a.tmps) = true) {t : TypeId} {x : Operand} (hop : o.op = .load t x) {b j : Nat} (hx : a.eval x = .pointer (some ⟨b, j, none⟩))
    {zs : List Int} {k : IntKind} {T : TypeId} {mk : List Value → List SP} [F : Find L b (zs.map (Value.int k)) T mk] (hagg : ∀ w, (isAgg t).run P w = .ok false w) (hi : j < zs.length)
    (h : wpQuiet P ops (Holds w0 L) Q rest (a.put o.dst (.int k (rd zs j)))) : wpQuiet P ops (Holds w0 L) Q (o :: rest) a := wpQuiet_ld hw hop hx hagg (map_rd k hi) h

theorem wpQuiet_ldo {Q : Act → Prop} {a : Act} {o : Oper} {rest : List Oper} (hw : Region.wanted o (yielded ops a.tmps) = true) {t : TypeId} {x : Operand} (hop : o.op = .load t x) {ad : Addr} (hx : a.eval x = .pointer (some ad))
    [F : HasOld L w0] {v : Value} (hc : w0.cell? ad = some v) (hagg : ∀ w, (isAgg t).run P w = .ok false w)
    (h : wpQuiet P ops (Holds w0 L) Q rest (a.put o.dst v)) : wpQuiet P ops (Holds w0 L) Q (o :: rest) a := by
  unfold wpQuiet
  rw [if_pos hw]
  refine ⟨v, fun w' hS' => ?_, h⟩
  unfold Oper.quietAt execOp
  simp only [hop, hx, Sem.run_bind, run_loadAt_one (hagg w') (hS'.old_cell hc), Result.andThen_ok, Sem.run_pure]
  exact ⟨rfl, rfl⟩

/-- A load, whoever comes up before it. -/
theorem wpSched_ld {a : Act} {w : World} {i : Nat} {o : Oper} {l : List (Nat × Bool)} (hS : Holds w0 L w) (ho : ops[i]? = some o) (hw : Region.wanted o (yielded ops a.tmps) = true) {t : TypeId} {x : Operand} (hop : o.op = .load t x) {b j : Nat} (hx : a.eval x = .pointer (some ⟨b, j, none⟩))
    {xs : List Value} {T : TypeId} {mk : List Value → List SP} [F : Find L b xs T mk] (hagg : ∀ w, (isAgg t).run P w = .ok false w) {v : Value} (hv : xs[j]? = some v)
    (h : wpSched P ops Q (Holds w0 L) l (a.put o.dst v) w) : wpSched P ops Q (Holds w0 L) ((i, true) :: l) a w := by
  refine wpSched_take ho hw (fun w' hS' => ?_) hS h
  unfold execOp
  simp only [hop, hx, Sem.run_bind, run_loadAt_one (hagg w') (hS'.cell b j hv), Result.andThen_ok, Sem.run_pure]
theorem wpSched_ldl {a : Act} {w : World} {i : Nat} {o : Oper} {l : List (Nat × Bool)} (hS : Holds w0 L w) (ho : ops[i]? = some o) (hw : Region.wanted o (yielded ops a.tmps) = true) {t : TypeId} {x : Operand} (hop : o.op = .load t x) {b j : Nat} (hx : a.eval x = .pointer (some ⟨b, j, none⟩))
    {xs : List Value} {T : TypeId} {mk : List Value → List SP} [F : Find L b xs T mk] (hagg : ∀ w, (isAgg t).run P w = .ok false w) {v : Value} [hv : GetAt xs j v]
    (h : wpSched P ops Q (Holds w0 L) l (a.put o.dst v) w) : wpSched P ops Q (Holds w0 L) ((i, true) :: l) a w := wpSched_ld hS ho hw hop hx hagg hv.eq h

end
end Go.Sep
