/- Which tasks are behind which, circles, and what verdicts must be: plain lemmas on lists, no program in sight. -/
import Derived.WalkKit
namespace Go.Proofs.Ytecegbgebefheaa

/-! ### Which tasks are behind which -/

def rowBits (l : List Int) : Nat := l.foldl (fun x t => x ||| 2 ^ t.toNat) 0

theorem rowBits_snoc (l : List Int) (t : Int) : rowBits (l ++ [t]) = rowBits l ||| 2 ^ t.toNat := by simp [rowBits, List.foldl_append]

def W (E : List (List Int)) : Nat → Nat → Nat
  | 0, i => rowBits (E.getD i [])
  | k + 1, i => if (W E k i).testBit k then W E k i ||| W E k k else W E k i

def Inside (N : Nat) (E : List (List Int)) : Prop := ∀ e ∈ E, ∀ x ∈ e, 0 ≤ x ∧ x < (N : Int)

theorem rowBits_lt {N : Nat} {l : List Int} (h : ∀ x ∈ l, 0 ≤ x ∧ x < (N : Int)) : rowBits l < 2 ^ N := by
  suffices ∀ acc, acc < 2 ^ N → l.foldl (fun x t => x ||| 2 ^ t.toNat) acc < 2 ^ N from this 0 (Nat.two_pow_pos N)
  induction l with
  | nil => exact fun acc ha => ha
  | cons t l ih =>
    intro acc ha
    have ht := h t (by simp)
    exact ih (fun x hx => h x (by simp [hx])) _ (Nat.or_lt_two_pow ha (Nat.pow_lt_pow_right (by omega) (by omega)))

theorem Inside.row {N : Nat} {E : List (List Int)} (h : Inside N E) (i : Nat) : ∀ x ∈ E.getD i [], 0 ≤ x ∧ x < (N : Int) := by
  intro x hx
  by_cases hi : i < E.length
  · simp [hi] at hx
    exact h _ (List.getElem_mem hi) x hx
  · simp [List.getElem?_eq_none (Nat.le_of_not_lt hi)] at hx

theorem W_lt {N : Nat} {E : List (List Int)} (h : Inside N E) (k i : Nat) : W E k i < 2 ^ N := by
  induction k generalizing i with
  | zero => exact rowBits_lt (h.row i)
  | succ k ih =>
    rw [W]
    split
    · exact Nat.or_lt_two_pow (ih i) (ih k)
    · exact ih i

theorem W_self (E : List (List Int)) (k : Nat) : W E (k + 1) k = W E k k := by
  rw [W]
  split
  · exact Nat.or_self _
  · rfl

/-- There is an edge. -/
def Ed (E : List (List Int)) (i j : Nat) : Prop := (j : Int) ∈ E.getD i []

/-- There is a way, by one edge or more. -/
inductive Way (E : List (List Int)) : Nat → Nat → Prop
  | one {i j : Nat} (h : Ed E i j) : Way E i j
  | more {i j k : Nat} (h : Ed E i j) (w : Way E j k) : Way E i k

theorem Way.trans {E : List (List Int)} {i j k : Nat} (h : Way E i j) (w : Way E j k) : Way E i k := by
  induction h with
  | one h => exact .more h w
  | more h _ ih => exact .more h (ih w)

theorem Way.end_lt {N : Nat} {E : List (List Int)} (hI : Inside N E) {i j : Nat} (h : Way E i j) : j < N := by
  induction h with
  | one h => have := hI.row _ _ h; omega
  | more _ _ ih => exact ih

theorem Ed.end_lt {N : Nat} {E : List (List Int)} (hI : Inside N E) {i j : Nat} (h : Ed E i j) : j < N := by
  have := hI.row _ _ h; omega

theorem testBit_rowBits {l : List Int} {j : Nat} (h : ∀ x ∈ l, 0 ≤ x) : (rowBits l).testBit j = true ↔ (j : Int) ∈ l := by
  suffices ∀ acc : Nat, (l.foldl (fun x t => x ||| 2 ^ t.toNat) acc).testBit j = true ↔ acc.testBit j = true ∨ (j : Int) ∈ l by
    have := this 0
    simpa [rowBits] using this
  induction l with
  | nil => simp
  | cons t l ih =>
    intro acc
    have ht := h t (by simp)
    simp only [List.foldl_cons, List.mem_cons]
    rw [ih (fun x hx => h x (by simp [hx]))]
    rw [Nat.testBit_or, Bool.or_eq_true, Nat.testBit_two_pow, decide_eq_true_eq, or_assoc]
    constructor
    · rintro (a | b | c)
      · exact .inl a
      · exact .inr (.inl (by omega))
      · exact .inr (.inr c)
    · rintro (a | b | c)
      · exact .inl a
      · exact .inr (.inl (by omega))
      · exact .inr (.inr c)

theorem testBit_W_succ (E : List (List Int)) (k i j : Nat) : (W E (k + 1) i).testBit j = true ↔ (W E k i).testBit j = true ∨ ((W E k i).testBit k = true ∧ (W E k k).testBit j = true) := by
  rw [W]
  by_cases h : (W E k i).testBit k = true
  · rw [if_pos h, Nat.testBit_or, Bool.or_eq_true]
    simp [h]
  · rw [if_neg h]
    simp [h]

theorem way_of_W {N : Nat} {E : List (List Int)} (hI : Inside N E) (k : Nat) : ∀ i j, (W E k i).testBit j = true → Way E i j := by
  induction k with
  | zero => exact fun i j h => .one ((testBit_rowBits fun x hx => (hI.row i x hx).1).1 h)
  | succ k ih =>
    intro i j h
    rcases (testBit_W_succ E k i j).1 h with h | ⟨h1, h2⟩
    · exact ih i j h
    · exact (ih i k h1).trans (ih k j h2)

theorem W_through (E : List (List Int)) : ∀ k i j l, j < k → (W E k i).testBit j = true → (W E k j).testBit l = true → (W E k i).testBit l = true := by
  intro k
  induction k with
  | zero => intro i j l hj; omega
  | succ k ih =>
    intro i j l hj h1 h2
    rw [testBit_W_succ] at h1 h2 ⊢
    by_cases e : j = k
    · subst e
      have h1' : (W E j i).testBit j = true := h1.elim id And.left
      have h2' : (W E j j).testBit l = true := h2.elim id And.right
      exact .inr ⟨h1', h2'⟩
    · have hj' : j < k := by omega
      rcases h1 with a | ⟨a, b⟩
      · rcases h2 with c | ⟨c, d⟩
        · exact .inl (ih i j l hj' a c)
        · exact .inr ⟨ih i j k hj' a c, d⟩
      · rcases h2 with c | ⟨c, d⟩
        · exact .inr ⟨a, ih k j l hj' b c⟩
        · exact .inr ⟨a, d⟩

theorem W_keeps (E : List (List Int)) (k i j : Nat) (h : (W E 0 i).testBit j = true) : (W E k i).testBit j = true := by
  induction k with
  | zero => exact h
  | succ k ih => exact (testBit_W_succ E k i j).2 (.inl ih)

theorem W_iff {N : Nat} {E : List (List Int)} (hI : Inside N E) (i j : Nat) : (W E N i).testBit j = true ↔ Way E i j := by
  refine ⟨way_of_W hI N i j, fun h => ?_⟩
  induction h with
  | one h => exact W_keeps E N _ _ ((testBit_rowBits fun x hx => (hI.row _ x hx).1).2 h)
  | more h _ ih =>
    exact W_through E N _ _ _ (Ed.end_lt hI h) (W_keeps E N _ _ ((testBit_rowBits fun x hx => (hI.row _ x hx).1).2 h)) ih

/-- Whoever reaches a circle. -/
def Cyc (E : List (List Int)) (i : Nat) : Prop := ∃ j, Way E i j ∧ Way E j j

theorem Cyc.of_edge {E : List (List Int)} {i j : Nat} (h : Ed E i j) (c : Cyc E j) : Cyc E i := by
  obtain ⟨k, h1, h2⟩ := c
  exact ⟨k, .more h h1, h2⟩

theorem Cyc.edge {E : List (List Int)} {i : Nat} (c : Cyc E i) : ∃ j, Ed E i j ∧ Cyc E j := by
  obtain ⟨k, h1, h2⟩ := c
  cases h1 with
  | one h => exact ⟨k, h, k, h2, h2⟩
  | more h w => exact ⟨_, h, k, w, h2⟩

theorem Cyc.of_way {E : List (List Int)} {i j : Nat} (h : Way E i j) (c : Cyc E j) : Cyc E i := by
  obtain ⟨k, h1, h2⟩ := c
  exact ⟨k, h.trans h1, h2⟩

/-- How many are behind. -/
def behindN (N : Nat) (E : List (List Int)) (i : Nat) : Nat := (List.range N).countP fun j => (W E N i).testBit j

theorem count_lt {p q : Nat → Bool} {l : List Nat} (h : ∀ x ∈ l, p x = true → q x = true) {c : Nat} (hc : c ∈ l) (hq : q c = true) (hp : p c = false) : l.countP p < l.countP q := by
  induction l with
  | nil => simp at hc
  | cons a l ih =>
    have hle : l.countP p ≤ l.countP q := List.countP_mono_left fun x hx => h x (by simp [hx])
    rw [List.countP_cons, List.countP_cons]
    by_cases e : a = c
    · subst e
      rw [hq, hp]
      simp
      omega
    · have hcl : c ∈ l := by simpa [Ne.symm e] using hc
      have hi := ih (fun x hx => h x (by simp [hx])) hcl
      have ha := h a (by simp)
      by_cases e : p a = true
      · rw [e, ha e]; simp; omega
      · have e' : p a = false := by simpa using e
        rw [e']
        have : 0 ≤ if q a = true then 1 else 0 := Nat.zero_le _
        simp only [Bool.false_eq_true, if_false]
        omega

theorem behindN_lt {N : Nat} {E : List (List Int)} (hI : Inside N E) {i j : Nat} (h : Ed E i j) (hc : ¬ Cyc E i) : behindN N E j < behindN N E i := by
  refine count_lt (c := j) (fun x _ hx => ?_) (List.mem_range.2 (h.end_lt hI)) ((W_iff hI i j).2 (.one h)) ?_
  · exact (W_iff hI i x).2 (.more h ((W_iff hI j x).1 hx))
  · rw [Bool.eq_false_iff]
    intro hx
    exact hc ⟨j, .one h, (W_iff hI j j).1 hx⟩

/-! ### What becomes of a task -/

/-- What a verdict behind it makes of what a task is so far. -/
def bend (out v : Int) : Int := if v = 6 then 6 else if v = 0 ∧ out = 5 then 0 else out

def bends (out : Int) (vs : List Int) : Int := vs.foldl bend out

theorem bends_snoc (out : Int) (vs : List Int) (v : Int) : bends out (vs ++ [v]) = bend (bends out vs) v := by simp [bends, List.foldl_append]

/-- The verdicts, by what each must be. -/
structure Sol (N : Nat) (E : List (List Int)) (O : List Int) (V : Nat → Int) : Prop where
  cyc : ∀ i, i < N → Cyc E i → V i = 7
  own : ∀ i, i < N → ¬ Cyc E i → V i = bends (O.getD i 0) ((E.getD i []).map fun x => V x.toNat)

theorem Sol.unique {N : Nat} {E : List (List Int)} {O : List Int} {V V' : Nat → Int} (hI : Inside N E) (h : Sol N E O V) (h' : Sol N E O V') : ∀ i, i < N → V i = V' i := by
  suffices ∀ k i, behindN N E i < k → i < N → V i = V' i from fun i hi => this _ i (Nat.lt_succ_self _) hi
  intro k
  induction k with
  | zero => intro i h; omega
  | succ k ih =>
    intro i hk hi
    by_cases hc : Cyc E i
    · rw [h.cyc i hi hc, h'.cyc i hi hc]
    · rw [h.own i hi hc, h'.own i hi hc]
      congr 1
      apply List.map_congr_left
      intro x hx
      have hx' := hI.row i x hx
      have he : Ed E i x.toNat := by
        show ((x.toNat : Nat) : Int) ∈ _
        rw [Int.toNat_of_nonneg hx'.1]; exact hx
      exact ih _ (Nat.lt_of_lt_of_le (behindN_lt hI he hc) (Nat.le_of_lt_succ hk)) (by omega)

open Classical in
/-- Verdicts, by how many rounds. -/
noncomputable def Vf (E : List (List Int)) (O : List Int) : Nat → Nat → Int
  | 0, _ => 0
  | k + 1, i => if Cyc E i then 7 else bends (O.getD i 0) ((E.getD i []).map fun x => Vf E O k x.toNat)

theorem Inside.ed {N : Nat} {E : List (List Int)} (hI : Inside N E) {i : Nat} {x : Int} (hx : x ∈ E.getD i []) : Ed E i x.toNat := by
  show ((x.toNat : Nat) : Int) ∈ _
  rw [Int.toNat_of_nonneg (hI.row i x hx).1]; exact hx

theorem Vf_stable {N : Nat} {E : List (List Int)} {O : List Int} (hI : Inside N E) : ∀ k k' i, behindN N E i < k → behindN N E i < k' → Vf E O k i = Vf E O k' i := by
  intro k
  induction k with
  | zero => intro k' i h; omega
  | succ k ih =>
    intro k' i h h'
    cases k' with
    | zero => omega
    | succ k' =>
      rw [Vf, Vf]
      split
      · rfl
      · rename_i hc
        congr 1
        apply List.map_congr_left
        intro x hx
        have := behindN_lt hI (hI.ed hx) hc
        exact ih k' _ (by omega) (by omega)

theorem Sol.exist {N : Nat} {E : List (List Int)} (O : List Int) (hI : Inside N E) : Sol N E O (Vf E O (N + 1)) := by
  have hle : ∀ i, behindN N E i ≤ N := fun i => by
    have := List.countP_le_length (p := fun j => (W E N i).testBit j) (l := List.range N)
    simpa [behindN] using this
  refine ⟨fun i hi hc => by rw [Vf, if_pos hc], fun i hi hc => ?_⟩
  rw [Vf, if_neg hc]
  congr 1
  apply List.map_congr_left
  intro x hx
  have := behindN_lt hI (hI.ed hx) hc
  have := hle i
  exact Vf_stable hI _ _ _ (by omega) (by omega)

end Go.Proofs.Ytecegbgebefheaa
