/- A region that draws its order, its head walked as a tree of orders. -/
import Derived.Test.YtecegbgebefheaaSched
namespace Go.Sep

/-- An order in which a region's first operations are carried out, with what may come up instead. -/
inductive Sch
  | done
  | take (i : Nat) (s : Sch)
  | one (i : Nat) (s : Sch)
  | two (i j : Nat) (si sj : Sch)
  | three (i j k : Nat) (si sj sk : Sch)

section
variable {P : Program} {ops : Array Oper} {Q : Exit → Act → World → Prop} {md : Region.Mode} {S : World → Prop} {n : Nat}

/-- Whatever order is picked of the first n operations; then L. -/
def wpAnyT (P : Program) (md : Region.Mode) (ops : Array Oper) (Q : Exit → Act → World → Prop) (S : World → Prop) (n : Nat) (L : Array Bool → Act → World → Prop) : Nat → Array Bool → Act → World → Prop
  | 0, listed, a, w => L listed a w
  | f + 1, listed, a, w => Region.ready md ops listed ≠ [] ∧ ∀ i ∈ Region.ready md ops listed, i < n ∧ wpOp P ops Q i (fun a' w' => S w' ∧ wpAnyT P md ops Q S n L f (listed.setIfInBounds i true) a' w') a w

theorem wpAny_of_T {L : Array Bool → Act → World → Prop} {g : Nat} (hL : ∀ listed a w, L listed a w → wpAny P md ops Q g listed a w) : ∀ (f : Nat) (listed : Array Bool) (a : Act) (w : World), wpAnyT P md ops Q S n L f listed a w → wpAny P md ops Q (f + g) listed a w
  | 0, listed, a, w, h => by rw [Nat.zero_add]; exact hL _ _ _ h
  | f + 1, listed, a, w, h => by
    rw [show f + 1 + g = (f + g) + 1 by omega]
    exact ⟨fun h0 => absurd h0 h.1, fun i hi => wpOp_mono (fun a' w' h' => wpAny_of_T hL f _ a' w' h'.2) (h.2 i hi).2⟩

theorem wpAnyT_first {L : Array Bool → Act → World → Prop} {i : Nat} {oi : Oper} {v : Value} (hi : ops[i]? = some oi) (hsel : ∀ (j : Nat) (o : Oper) cs b, ops[j]? = some o → o.op ≠ .select cs b)
    (hQ : ∀ c a w, Q (.panic c) (a.put oi.dst v) w → Q (.panic c) a w) (hs : Region.sinkB md ops n = true) (hc : Region.chainB md ops n = true) (hn : n < ops.size) (hin : i < n)
    (hdone : ∀ listed a w, L listed a w → ∀ j ∈ Region.ready md ops listed, n ≤ j) :
    ∀ (f : Nat) (listed : Array Bool) (a : Act) (w : World), HeadInv md ops n listed →
      (∀ j oj, ops[j]? = some oj → j ≠ i → listed.getD j true = false → (∀ e ∈ oj.after, Region.binds md e = true → e.on ≠ i) → oi.apart ops oj = true) →
      i ∈ Region.ready md ops listed → YieldsIf P ops S oi v a → S w →
      wpAnyT P md ops Q S n L f (listed.setIfInBounds i true) (a.put oi.dst v) w → wpAnyT P md ops Q S n L (f + 1) listed a w := by
  intro f
  induction f with
  | zero =>
    intro listed a w inv _ hr hy hS H
    have hun := (mem_ready.1 hr).1
    refine ⟨fun h => (by rw [h] at hr; cases hr), fun j hj => ?_⟩
    have hjn : j < n := by
      rcases Nat.lt_or_ge j n with h | h
      · exact h
      · exact absurd hj (tail_waits hs hc hn inv _ i rfl hin hun j h)
    refine ⟨hjn, ?_⟩
    by_cases hji : j = i
    · subst hji; exact hy.wpOp hi hS ⟨hS, H⟩
    · have := hdone _ _ _ H j (ready_mono hj hji)
      omega
  | succ f ih =>
    intro listed a w inv hfree hr hy hS H
    have hun := (mem_ready.1 hr).1
    refine ⟨fun h => (by rw [h] at hr; cases hr), fun j hj => ?_⟩
    have hjn : j < n := by
      rcases Nat.lt_or_ge j n with h | h
      · exact h
      · exact absurd hj (tail_waits hs hc hn inv _ i rfl hin hun j h)
    refine ⟨hjn, ?_⟩
    by_cases hji : j = i
    · subst hji; exact hy.wpOp hi hS ⟨hS, H⟩
    · have h1 := (H.2 j (ready_mono hj hji)).2
      obtain ⟨hjun, oj, hoj, hall⟩ := mem_ready.1 hj
      have hnot : ∀ e ∈ oj.after, Region.binds md e = true → e.on ≠ i := fun e he hb heq => by
        have h1 := hall e he hb
        rw [heq, getD_both hun] at h1
        cases h1
      have h2 := wpOp_putIf hoj (hfree j oj hoj hji hjun hnot) (fun cs b => hsel i oi cs b hi) (fun cs b => hsel j oj cs b hoj) hQ hy h1
      have hfree' : ∀ k ok, ops[k]? = some ok → k ≠ i → (listed.setIfInBounds j true).getD k true = false →
          (∀ e ∈ ok.after, Region.binds md e = true → e.on ≠ i) → oi.apart ops ok = true := fun k ok hk hki hun hno => by
        refine hfree k ok hk hki ?_ hno
        by_cases hjk : j = k
        · subst hjk; exact hjun
        · rw [getD_set_ne true hjk] at hun; exact hun
      refine wpOp_mono (fun a' w' h3 => ⟨h3.2.1, ih (listed.setIfInBounds j true) a' w' (inv.set hj hjn) hfree' (ready_mono hr (Ne.symm hji)) h3.1 h3.2.1 ?_⟩) h2
      rw [Array.setIfInBounds_comm _ _ hji]
      exact h3.2.2

/-- What is to be shown: the operations as the order has them, then R. -/
def wpSch (P : Program) (ops : Array Oper) (Q : Exit → Act → World → Prop) (S : World → Prop) (R : Act → World → Prop) : Sch → Act → World → Prop
  | .done, a, w => R a w
  | .take i s, a, w => ∃ o v, ops[i]? = some o ∧ YieldsIf P ops S o v a ∧ S w ∧ wpSch P ops Q S R s (a.put o.dst v) w
  | .one i s, a, w => wpOp P ops Q i (fun a' w' => S w' ∧ wpSch P ops Q S R s a' w') a w
  | .two i j si sj, a, w => wpOp P ops Q i (fun a' w' => S w' ∧ wpSch P ops Q S R si a' w') a w ∧ wpOp P ops Q j (fun a' w' => S w' ∧ wpSch P ops Q S R sj a' w') a w
  | .three i j k si sj sk, a, w => wpOp P ops Q i (fun a' w' => S w' ∧ wpSch P ops Q S R si a' w') a w ∧ wpOp P ops Q j (fun a' w' => S w' ∧ wpSch P ops Q S R sj a' w') a w ∧ wpOp P ops Q k (fun a' w' => S w' ∧ wpSch P ops Q S R sk a' w') a w

/-- Is it such an order? 'f': how many are to come ahead of the tail, which begins at n. -/
def schB (md : Region.Mode) (ops : Array Oper) (n g : Nat) : Sch → Nat → Array Bool → Bool
  | .done, f, listed => f == 0 && Region.seqB md ops g n listed
  | .take i s, f, listed => decide (0 < f) && decide (i < n) && (Region.ready md ops listed).contains i && Region.free md ops listed i && schB md ops n g s (f - 1) (listed.setIfInBounds i true)
  | .one i s, f, listed => decide (0 < f) && decide (i < n) && decide (Region.ready md ops listed = [i]) && schB md ops n g s (f - 1) (listed.setIfInBounds i true)
  | .two i j si sj, f, listed => decide (0 < f) && decide (i < n) && decide (j < n) && decide (Region.ready md ops listed = [i, j]) && schB md ops n g si (f - 1) (listed.setIfInBounds i true) && schB md ops n g sj (f - 1) (listed.setIfInBounds j true)
  | .three i j k si sj sk, f, listed => decide (0 < f) && decide (i < n) && decide (j < n) && decide (k < n) && decide (Region.ready md ops listed = [i, j, k]) && schB md ops n g si (f - 1) (listed.setIfInBounds i true) && schB md ops n g sj (f - 1) (listed.setIfInBounds j true) &&
      schB md ops n g sk (f - 1) (listed.setIfInBounds k true)

theorem wpAnyT_sch {R : Act → World → Prop} {g : Nat} (hsel : Region.noSelect ops = true) (hQ : ∀ c a d v w, Q (.panic c) (Act.put a d v) w → Q (.panic c) a w) (hs : Region.sinkB md ops n = true) (hc : Region.chainB md ops n = true) (hn : n < ops.size) :
    ∀ (s : Sch) (f : Nat) (listed : Array Bool) (a : Act) (w : World), HeadInv md ops n listed → schB md ops n g s f listed = true → wpSch P ops Q S R s a w →
      wpAnyT P md ops Q S n (fun listed' a' w' => Region.seqB md ops g n listed' = true ∧ R a' w') f listed a w
  | .done, f, listed, a, w, _, hB, h => by
    simp only [schB, Bool.and_eq_true, beq_iff_eq] at hB
    obtain ⟨rfl, hB⟩ := hB
    exact ⟨hB, h⟩
  | .take i s, f, listed, a, w, inv, hB, h => by
    simp only [schB, Bool.and_eq_true, decide_eq_true_eq] at hB
    obtain ⟨⟨⟨⟨hf, hin⟩, hr⟩, hfr⟩, hB'⟩ := hB
    obtain ⟨o, v, ho, hy, hS, hl⟩ := h
    have hr' : i ∈ Region.ready md ops listed := by simpa using hr
    have := wpAnyT_first ho (Region.noSelect_spec hsel) (fun c a w => hQ c a _ _ w) hs hc hn hin (fun listed' a' w' hL => seqB_ready hL.1) (f - 1) listed a w inv (Region.free_spec ho hfr) hr' hy hS
      (wpAnyT_sch hsel hQ hs hc hn s (f - 1) _ _ _ (inv.set hr' hin) hB' hl)
    rwa [Nat.sub_add_cancel hf] at this
  | .one i s, f, listed, a, w, inv, hB, h => by
    simp only [schB, Bool.and_eq_true, decide_eq_true_eq] at hB
    obtain ⟨⟨⟨hf, hin⟩, hr⟩, hB'⟩ := hB
    obtain ⟨f, rfl⟩ : ∃ m, f = m + 1 := ⟨f - 1, by omega⟩
    refine ⟨by rw [hr]; simp, fun j hj => ?_⟩
    have hj' := hj
    rw [hr] at hj'
    obtain rfl : j = i := by simpa using hj'
    exact ⟨hin, wpOp_mono (fun a' w' h' => ⟨h'.1, wpAnyT_sch hsel hQ hs hc hn s f _ _ _ (inv.set hj hin) hB' h'.2⟩) h⟩
  | .two i k si sk, f, listed, a, w, inv, hB, h => by
    simp only [schB, Bool.and_eq_true, decide_eq_true_eq] at hB
    obtain ⟨⟨⟨⟨⟨hf, hin⟩, hkn⟩, hr⟩, hBi⟩, hBk⟩ := hB
    obtain ⟨f, rfl⟩ : ∃ m, f = m + 1 := ⟨f - 1, by omega⟩
    refine ⟨by rw [hr]; simp, fun j hj => ?_⟩
    have hj' := hj
    rw [hr] at hj'
    simp only [List.mem_cons, List.not_mem_nil, or_false] at hj'
    rcases hj' with rfl | rfl
    · exact ⟨hin, wpOp_mono (fun a' w' h' => ⟨h'.1, wpAnyT_sch hsel hQ hs hc hn si f _ _ _ (inv.set hj hin) hBi h'.2⟩) h.1⟩
    · exact ⟨hkn, wpOp_mono (fun a' w' h' => ⟨h'.1, wpAnyT_sch hsel hQ hs hc hn sk f _ _ _ (inv.set hj hkn) hBk h'.2⟩) h.2⟩
  | .three i k l si sk sl, f, listed, a, w, inv, hB, h => by
    simp only [schB, Bool.and_eq_true, decide_eq_true_eq] at hB
    obtain ⟨⟨⟨⟨⟨⟨⟨hf, hin⟩, hkn⟩, hln⟩, hr⟩, hBi⟩, hBk⟩, hBl⟩ := hB
    obtain ⟨f, rfl⟩ : ∃ m, f = m + 1 := ⟨f - 1, by omega⟩
    refine ⟨by rw [hr]; simp, fun j hj => ?_⟩
    have hj' := hj
    rw [hr] at hj'
    simp only [List.mem_cons, List.not_mem_nil, or_false] at hj'
    rcases hj' with rfl | rfl | rfl
    · exact ⟨hin, wpOp_mono (fun a' w' h' => ⟨h'.1, wpAnyT_sch hsel hQ hs hc hn si f _ _ _ (inv.set hj hin) hBi h'.2⟩) h.1⟩
    · exact ⟨hkn, wpOp_mono (fun a' w' h' => ⟨h'.1, wpAnyT_sch hsel hQ hs hc hn sk f _ _ _ (inv.set hj hkn) hBk h'.2⟩) h.2.1⟩
    · exact ⟨hln, wpOp_mono (fun a' w' h' => ⟨h'.1, wpAnyT_sch hsel hQ hs hc hn sl f _ _ _ (inv.set hj hln) hBl h'.2⟩) h.2.2⟩

/-- May the region be walked so? -/
def treeB (md : Region.Mode) (ops : Array Oper) (n : Nat) (s : Sch) : Bool :=
  Region.noSelect ops && decide (n < ops.size) && Region.sinkB md ops n && Region.chainB md ops n && schB md ops n (ops.size - n) s n (Array.replicate ops.size false)

/-- **A region that draws its order: its first n operations as a tree of orders, the others one behind the other.** -/
theorem wp_region_tree {id : Nat} {a : Act} {w : World} {l : List Oper} (S : World → Prop) (n : Nat) (s : Sch) (hm : P.follows .mixedOrders = true) (hB : treeB .any l.toArray n s = true)
    (h : wpSch P l.toArray (NoPanic Q) S (fun a' w' => wpList P l.toArray (NoPanic Q) (l.drop n) a' w') s a w.drew) : (Code.region id l.toArray true).wp P Q a w := by
  simp only [treeB, Bool.and_eq_true, decide_eq_true_eq] at hB
  obtain ⟨⟨⟨⟨hsel, hn⟩, hs⟩, hc⟩, hB'⟩ := hB
  have hn' : n < l.length := by simpa using hn
  have inv0 : HeadInv .any l.toArray n (Array.replicate l.toArray.size false) :=
    ⟨by simp, fun j oj _ hl => (by rw [getD_replicate_false] at hl; cases hl), fun t _ ht => getD_in (by simpa using ht) (getD_replicate_false _ _)⟩
  have H := wpAnyT_sch (md := .any) hsel (fun _ _ _ _ _ h => h) hs hc hn s n _ a w.drew inv0 hB' h
  refine wp_region_noPanic (wp_region_any hm ?_)
  have hdl : (l.drop n).length = l.toArray.size - n := by simp
  have := wpAny_of_T (Q := NoPanic Q) (g := l.toArray.size - n) (fun listed a' w' hL => by
    have := wpAny_of_seq (md := .any) (Q' := NoPanic Q) (l.drop n) n listed a' w' (fun j => by simp [List.getElem?_drop]) (by rw [hdl]; exact hL.1) hL.2
    rwa [hdl] at this) _ _ _ _ H
  rw [show n + (l.toArray.size - n) = l.toArray.size by omega] at this
  exact this

/-! ### Stepping through such an order -/

def Sch.takes : List Nat → Sch → Sch
  | [], s => s
  | i :: is, s => .take i (Sch.takes is s)

/-- Operations that hand back a value. -/
def valOp (P : Program) (o : Op) : Bool := plainOp P o || (match o with | .build .. => true | _ => false)

theorem Vals.execVal {ρ : Operand → Value} {o : Oper} (h : valOp P o.op = true) : Vals P (Go.execOp ρ o) := by
  simp only [valOp, Bool.or_eq_true] at h
  rcases h with h | h
  · exact Vals.execOp h
  · obtain ⟨dst, op, ty, pos, after, guard⟩ := o
    cases op
    case build => exact Vals.bind fun _ => Vals.pure _
    all_goals cases h

/-- An operation that does not ask for the world. -/
theorem wpQuiet_weak {Q : Act → Prop} {a : Act} {o : Oper} {rest : List Oper} (hp : valOp P o.op = true) (h : wpQuiet P ops (fun _ => True) (wpQuiet P ops S Q rest) [o] a) : wpQuiet P ops S Q (o :: rest) a := by
  unfold wpQuiet at h ⊢
  split at h
  · rename_i hw
    rw [if_pos hw]
    obtain ⟨v, h1, h2⟩ := h
    refine ⟨v, fun w _ => ?_, h2⟩
    have h3 := h1 w trivial
    unfold Oper.quietAt at h3 ⊢
    generalize hr : (execOp a.eval o).run P w = r at h3 ⊢
    cases r with
    | halt x w1 => exact h3.elim
    | ok n w1 =>
      obtain ⟨u, rfl⟩ := Vals.execVal (P := P) hp w n w1 hr
      exact h3
  · rename_i hw
    rw [if_neg hw]
    exact h

theorem wpSch_seg {R : Act → World → Prop} {w : World} {s : Sch} : ∀ (is : List Nat) (os : List Oper) (a : Act), is.map (ops[·]?) = os.map some → (os.all fun o => valOp P o.op) = true → S w →
    wpQuiet P ops S (fun a' => wpSch P ops Q S R s a' w) os a → wpSch P ops Q S R (Sch.takes is s) a w
  | [], os, a, he, _, _, h => by
    cases os with
    | nil => exact h
    | cons => simp at he
  | i :: is, os, a, he, hp, hS, h => by
    cases os with
    | nil => simp at he
    | cons o os =>
      simp only [List.map_cons, List.cons.injEq] at he
      simp only [List.all_cons, Bool.and_eq_true] at hp
      unfold wpQuiet at h
      unfold Sch.takes wpSch
      split at h
      · rename_i hw
        obtain ⟨v, h1, h2⟩ := h
        refine ⟨o, v, he.1, .inl ⟨hw, fun w' hw' => ?_⟩, hS, wpSch_seg is os _ he.2 hp.2 hS h2⟩
        have h3 := h1 w' hw'
        unfold Oper.quietAt at h3
        generalize hr : (execOp a.eval o).run P w' = r at h3
        cases r with
        | halt x w1 => exact h3.elim
        | ok n w1 =>
          obtain ⟨u, rfl⟩ := Vals.execVal (P := P) hp.1 w' n w1 hr
          obtain ⟨rfl, rfl⟩ := h3
          rfl
      · rename_i hw
        exact ⟨o, undef, he.1, .inr ⟨by simpa using hw, rfl⟩, hS, wpSch_seg is os _ he.2 hp.2 hS h⟩

/-- What is asked behind an operation that comes up by itself. -/
def stepQ (Q : Exit → Act → World → Prop) (K : Act → World → Prop) : Exit → Act → World → Prop
  | .normal, a, w => K a w
  | e, a, w => Q e a w

theorem stepQ_intro {K : Act → World → Prop} {a : Act} {w : World} (h : K a w) : stepQ Q K .normal a w := h

theorem wpOp_of_list {K : Act → World → Prop} {a : Act} {w : World} {i : Nat} {o : Oper} (ho : ops[i]? = some o) (h : wpList P ops (stepQ Q K) [o] a w) : wpOp P ops Q i K a w := by
  unfold wpOp
  simp only [ho]
  unfold wpList at h
  have out : LetsOut (stepQ Q K) → LetsOut Q := fun ⟨a, w, h⟩ => ⟨a, w, h⟩
  split
  · rename_i hw
    rw [if_pos hw] at h
    rcases h with h | ⟨h1, h2⟩
    · refine .inl ?_
      unfold Oper.wp at h ⊢
      generalize (execOp a.eval o).run P w = r at h ⊢
      cases r with
      | halt x w' => cases x <;> exact h
      | ok n w' =>
        cases n with
        | enter f args =>
          refine Calls.mono h fun e w'' he => ?_
          cases e with
          | returned v => exact he
          | panicked c => exact he
          | outgrown => exact out he
        | row r args => exact Rows.mono h fun u w'' he => he
        | _ => exact h
    · exact .inr ⟨h1, out h2⟩
  · rename_i hw
    rw [if_neg hw] at h
    exact h

theorem wpOp_one {K : Act → World → Prop} {a : Act} {w : World} {i : Nat} {l : List Oper} (hi : i < l.length) (h : wpList P l.toArray (stepQ Q K) ((l.drop i).take 1) a w) : wpOp P l.toArray Q i K a w := by
  refine wpOp_of_list (o := l[i]) (by simp [hi]) ?_
  have e : (l.drop i).take 1 = [l[i]] := by
    apply List.ext_getElem?
    intro j
    cases j with
    | zero => simp [hi]
    | succ j => simp; omega
  rwa [e] at h

theorem wpSch_row {R : Act → World → Prop} {w : World} {sc : Sch} {l : List Oper} (s n : Nat) {a : Act} (hn : s + n ≤ l.length) (hp : (((l.drop s).take n).all fun o => valOp P o.op) = true) (hS : S w)
    (h : wpQuiet P l.toArray S (fun a' => wpSch P l.toArray Q S R sc a' w) ((l.drop s).take n) a) : wpSch P l.toArray Q S R (Sch.takes (List.range' s n) sc) a w := by
  refine wpSch_seg (List.range' s n) ((l.drop s).take n) a ?_ hp hS h
  apply List.ext_getElem?
  intro j
  by_cases hj : j < n
  · simp [hj, List.getElem?_drop, show s + j < l.length by omega]
  · rw [List.getElem?_eq_none (by simp; omega), List.getElem?_eq_none (by simp; omega)]

theorem wpSch_done {R : Act → World → Prop} {a : Act} {w : World} (h : R a w) : wpSch P ops Q S R .done a w := h

theorem wpSch_mono {R R' : Act → World → Prop} (h : ∀ a w, R a w → R' a w) : ∀ (s : Sch) (a : Act) (w : World), wpSch P ops Q S R s a w → wpSch P ops Q S R' s a w
  | .done, a, w, k => h a w k
  | .take i s, a, w, ⟨o, v, h1, h2, h3, k⟩ => ⟨o, v, h1, h2, h3, wpSch_mono h s _ _ k⟩
  | .one i s, a, w, k => wpOp_mono (fun a' w' k => ⟨k.1, wpSch_mono h s a' w' k.2⟩) (show wpOp P ops Q i _ a w from k)
  | .two i j si sj, a, w, k => ⟨wpOp_mono (fun a' w' k => ⟨k.1, wpSch_mono h si a' w' k.2⟩) k.1, wpOp_mono (fun a' w' k => ⟨k.1, wpSch_mono h sj a' w' k.2⟩) k.2⟩
  | .three i j l si sj sl, a, w, k => ⟨wpOp_mono (fun a' w' k => ⟨k.1, wpSch_mono h si a' w' k.2⟩) k.1, wpOp_mono (fun a' w' k => ⟨k.1, wpSch_mono h sj a' w' k.2⟩) k.2.1, wpOp_mono (fun a' w' k => ⟨k.1, wpSch_mono h sl a' w' k.2⟩) k.2.2⟩

/-- The same, with what is known behind the head, whichever order it was. -/
theorem wp_region_tree_via {id : Nat} {a : Act} {w : World} {l : List Oper} (S : World → Prop) (R : Act → World → Prop) (n : Nat) (s : Sch) (hm : P.follows .mixedOrders = true) (hB : treeB .any l.toArray n s = true)
    (h : wpSch P l.toArray (NoPanic Q) S R s a w.drew) (k : ∀ a' w', R a' w' → wpList P l.toArray (NoPanic Q) (l.drop n) a' w') : (Code.region id l.toArray true).wp P Q a w :=
  wp_region_tree S n s hm hB (wpSch_mono k s _ _ h)

theorem noPanic_intro {a : Act} {w : World} (h : Q .normal a w) : NoPanic Q .normal a w := h

end
end Go.Sep
