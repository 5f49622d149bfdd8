/- What the function made computes, and what bends computes: plain lemmas. -/
import Derived.Test.YtecegbgebefheaaMath
namespace Go.Proofs.Ytecegbgebefheaa

/-! ### What 'made' makes -/

def madeStep (n : Nat) (E : List (List Int)) (p : Int × Int) : List (List Int) :=
  E.set (p.1 % (n : Int)).toNat (E.getD (p.1 % (n : Int)).toNat [] ++ [p.2 % (n : Int)])

def madeE (n : Nat) (es : List (Int × Int)) : List (List Int) := es.foldl (madeStep n) (List.replicate n [])

theorem madeE_snoc (n : Nat) (es : List (Int × Int)) (p : Int × Int) : madeE n (es ++ [p]) = madeStep n (madeE n es) p := by simp [madeE, List.foldl_append]

theorem madeE_succ (n : Nat) (es : List (Int × Int)) (j : Nat) (h : j < es.length) : madeE n (es.take (j + 1)) = madeStep n (madeE n (es.take j)) es[j] := by
  rw [List.take_succ_eq_append_getElem h, madeE_snoc]

theorem madeE_length (n : Nat) (es : List (Int × Int)) : (madeE n es).length = n := by
  suffices ∀ E : List (List Int), (es.foldl (madeStep n) E).length = E.length by simpa [madeE] using this (List.replicate n [])
  induction es with
  | nil => simp
  | cons p es ih => intro E; rw [List.foldl_cons, ih]; simp [madeStep]

theorem foldl_inv {α β : Type} (f : β → α → β) (P : β → Prop) : ∀ (l : List α) (b : β), P b → (∀ b a, a ∈ l → P b → P (f b a)) → P (l.foldl f b)
  | [], _, h, _ => h
  | a :: l, b, h, hs => foldl_inv f P l (f b a) (hs b a (by simp) h) fun b a ha => hs b a (by simp [ha])

theorem mem_madeStep {n : Nat} {E : List (List Int)} {p : Int × Int} {e : List Int} (h : e ∈ madeStep n E p) : e ∈ E ∨ e = E.getD (p.1 % (n : Int)).toNat [] ++ [p.2 % (n : Int)] := by
  unfold madeStep at h
  rcases List.mem_or_eq_of_mem_set h with h | h
  · exact .inl h
  · exact .inr h

theorem getD_mem_or {E : List (List Int)} (i : Nat) : E.getD i [] ∈ E ∨ E.getD i [] = [] := by
  by_cases h : i < E.length
  · left; simp [h]
  · right; simp [List.getElem?_eq_none (Nat.le_of_not_lt h)]

theorem madeE_inside (n : Nat) (hn : 0 < n) (es : List (Int × Int)) : Inside n (madeE n es) := by
  refine foldl_inv (madeStep n) (Inside n) es _ (fun e he x hx => ?_) fun E p _ hE => ?_
  · simp only [List.mem_replicate] at he
    rw [he.2] at hx
    cases hx
  · intro e he x hx
    rcases mem_madeStep he with he | rfl
    · exact hE e he x hx
    · rcases List.mem_append.1 hx with hx | hx
      · rcases getD_mem_or (E := E) (p.1 % (n : Int)).toNat with h | h
        · exact hE _ h x hx
        · rw [h] at hx; cases hx
      · simp only [List.mem_singleton] at hx
        subst hx
        exact ⟨Int.emod_nonneg _ (by omega), Int.emod_lt_of_pos _ (by omega)⟩

theorem madeE_nil_inside (n : Nat) (es : List (Int × Int)) (h : 0 < n ∨ es = []) : Inside n (madeE n es) := by
  rcases h with h | rfl
  · exact madeE_inside n h es
  · intro e he x hx
    simp only [madeE, List.foldl_nil, List.mem_replicate] at he
    rw [he.2] at hx
    cases hx

/-- Rows are no longer than there are edges. -/
theorem madeE_short (n : Nat) (es : List (Int × Int)) : ∀ e ∈ madeE n es, e.length ≤ es.length := by
  suffices ∀ (E : List (List Int)) (m : Nat), (∀ e ∈ E, e.length ≤ m) → ∀ e ∈ es.foldl (madeStep n) E, e.length ≤ m + es.length by
    have := this (List.replicate n []) 0 (fun e he => by simp only [List.mem_replicate] at he; simp [he.2])
    intro e he
    have := this e he
    omega
  induction es with
  | nil => intro E m h; simpa using h
  | cons p es ih =>
    intro E m h e he
    rw [List.foldl_cons] at he
    have := ih (madeStep n E p) (m + 1) (fun e he => by
      rcases mem_madeStep he with he | rfl
      · have := h e he; omega
      · rcases getD_mem_or (E := E) (p.1 % (n : Int)).toNat with h' | h'
        · have := h _ h'; rw [List.length_append, List.length_singleton]; omega
        · rw [h']; simp) e he
    simp only [List.length_cons]
    omega

def kindOf (x : Int) : Int := if x % 3 = 0 then 0 else if x % 3 = 1 then 5 else 6

def madeO (n : Nat) (own : List Int) : List Int := (List.range n).map fun i => if i < own.length then kindOf (own.getD i 0) else 0

theorem madeO_length (n : Nat) (own : List Int) : (madeO n own).length = n := by simp [madeO]

theorem kindOf_own (x : Int) : kindOf x = 0 ∨ kindOf x = 5 ∨ kindOf x = 6 := by
  unfold kindOf
  split
  · exact .inl rfl
  · split
    · exact .inr (.inl rfl)
    · exact .inr (.inr rfl)

theorem madeO_own (n : Nat) (own : List Int) : ∀ x ∈ madeO n own, x = 0 ∨ x = 5 ∨ x = 6 := by
  intro x hx
  simp only [madeO, List.mem_map, List.mem_range] at hx
  obtain ⟨i, _, rfl⟩ := hx
  split
  · exact kindOf_own _
  · exact .inl rfl

theorem madeO_get (n : Nat) (own : List Int) (i : Nat) (h : i < n) : (madeO n own).getD i 0 = if i < own.length then kindOf (own.getD i 0) else 0 := by
  simp [madeO, h]

/-- What the verdicts behind a task make of it. -/
theorem bends_eq (out : Int) (vs : List Int) : bends out vs = if (6 : Int) ∈ vs then 6 else if out = 5 ∧ (0 : Int) ∈ vs then 0 else out := by
  have h6 : ∀ vs : List Int, bends 6 vs = 6 := by
    intro vs
    induction vs with
    | nil => rfl
    | cons v vs ih =>
      have : bend 6 v = 6 := by unfold bend; split <;> simp
      show bends (bend 6 v) vs = 6
      rw [this, ih]
  have hn : ∀ (vs : List Int) (o : Int), (6 : Int) ∉ vs → o ≠ 5 → bends o vs = o := by
    intro vs
    induction vs with
    | nil => intro o _ _; rfl
    | cons v vs ih =>
      intro o hv ho
      simp only [List.mem_cons, not_or] at hv
      have : bend o v = o := by
        unfold bend
        rw [if_neg (fun e => hv.1 e.symm), if_neg (fun e => ho e.2)]
      show bends (bend o v) vs = o
      rw [this, ih o hv.2 ho]
  induction vs generalizing out with
  | nil => simp [bends]
  | cons v vs ih =>
    show bends (bend out v) vs = _
    by_cases hv : v = 6
    · subst hv
      have : bend out 6 = 6 := by unfold bend; simp
      rw [this, h6]
      simp
    · by_cases hm : (6 : Int) ∈ vs
      · rw [ih, if_pos hm, if_pos (by simp [hm])]
      · have hm' : ¬ (6 : Int) ∈ v :: vs := by simp [hm, Ne.symm hv]
        rw [if_neg hm']
        by_cases ho : out = 5
        · subst ho
          by_cases h0 : v = 0
          · subst h0
            have : bend 5 0 = 0 := by decide
            rw [this, hn vs 0 hm (by decide)]
            simp
          · have : bend 5 v = 5 := by unfold bend; rw [if_neg hv, if_neg (fun e => h0 e.1)]
            rw [this, ih, if_neg hm]
            simp [Ne.symm h0]
        · have : bend out v = out := by unfold bend; rw [if_neg hv, if_neg (fun e => ho e.2)]
          rw [this, hn vs out hm ho, if_neg (fun e => ho e.1)]

/-- Verdicts. -/
theorem Sol.vals {N : Nat} {E : List (List Int)} {O : List Int} {V : Nat → Int} (hO : ∀ i, i < N → O.getD i 0 = 0 ∨ O.getD i 0 = 5 ∨ O.getD i 0 = 6) (h : Sol N E O V) : ∀ i, i < N → ¬ Cyc E i → V i = 0 ∨ V i = 5 ∨ V i = 6 := by
  intro i hi hc
  rw [h.own i hi hc, bends_eq]
  split
  · simp
  · split
    · simp
    · exact hO i hi

end Go.Proofs.Ytecegbgebefheaa
