/- An edge that is there twice is one: plain lemmas. -/
import Derived.Test.YtecegbgebefheaaMadeM
set_option linter.unusedSimpArgs false
set_option linter.unusedVariables false
namespace Go.Proofs.Ytecegbgebefheaa

def SameRows (E G : List (List Int)) : Prop := ∀ i x, x ∈ G.getD i [] ↔ x ∈ E.getD i []

theorem SameRows.symm {E G : List (List Int)} (h : SameRows E G) : SameRows G E := fun i x => (h i x).symm

theorem SameRows.way {E G : List (List Int)} (h : SameRows E G) {i j : Nat} (w : Way E i j) : Way G i j := by
  induction w with
  | one hd => exact .one ((h _ _).2 hd)
  | more hd _ ih => exact .more ((h _ _).2 hd) ih

theorem SameRows.cyc {E G : List (List Int)} (h : SameRows E G) (i : Nat) : Cyc G i ↔ Cyc E i := by
  constructor
  · rintro ⟨j, a, b⟩; exact ⟨j, h.symm.way a, h.symm.way b⟩
  · rintro ⟨j, a, b⟩; exact ⟨j, h.way a, h.way b⟩

theorem twice_math {n : Nat} {E G : List (List Int)} {O : List Int} {V V' : Nat → Int} (h : SameRows E G) (hI : Inside n G) (hV : Sol n E O V) (hV' : Sol n G O V') : ∀ i, i < n → V i = V' i := by
  refine Sol.unique hI ?_ hV'
  constructor
  · intro i hi hc
    exact hV.cyc i hi ((h.cyc i).1 hc)
  · intro i hi hc
    rw [hV.own i hi (fun e => hc ((h.cyc i).2 e)), bends_eq, bends_eq]
    have hm : ∀ v : Int, v ∈ (E.getD i []).map (fun x => V x.toNat) ↔ v ∈ (G.getD i []).map (fun x => V x.toNat) := by
      intro v
      simp only [List.mem_map]
      constructor
      · rintro ⟨x, hx, e⟩; exact ⟨x, (h i x).2 hx, e⟩
      · rintro ⟨x, hx, e⟩; exact ⟨x, (h i x).1 hx, e⟩
    simp only [hm]

/-- The rows ahead of i done, of row i the first m edges, and t times the next one. -/
structure Tw (E G : List (List Int)) (n i m t : Nat) : Prop where
  len : G.length = n
  done : ∀ a, a < i → (∀ x, x ∈ G.getD a [] ↔ x ∈ E.getD a []) ∧ (G.getD a []).length ≤ 3 * (E.getD a []).length
  rest : ∀ a, i < a → G.getD a [] = []
  here : ∀ x, x ∈ G.getD i [] ↔ x ∈ (E.getD i []).take m ∨ (0 < t ∧ x = (E.getD i []).getD m 0)
  short : (G.getD i []).length ≤ 3 * m + t

theorem getD_rep (n i : Nat) : (List.replicate n ([] : List Int)).getD i [] = [] := by
  by_cases h : i < n
  · simp [h]
  · simp [List.getElem?_eq_none (show (List.replicate n ([] : List Int)).length ≤ i by simp; omega)]

theorem Tw.start (E : List (List Int)) (n : Nat) : Tw E (List.replicate n []) n 0 0 0 := by
  refine ⟨by simp, fun a ha => by omega, fun a _ => getD_rep n a, fun x => ?_, ?_⟩
  · rw [getD_rep]
    simp
  · rw [getD_rep]
    simp

theorem getD_set_row {G : List (List Int)} {i a : Nat} {r : List Int} (h : i < G.length) : (G.set i r).getD a [] = if a = i then r else G.getD a [] := by
  by_cases e : a = i
  · subst e; simp [h]
  · simp [e, Ne.symm e]

theorem Tw.once {E G : List (List Int)} {n i m t : Nat} (h : Tw E G n i m t) (hi : i < n) (hm : m < (E.getD i []).length) : Tw E (G.set i (G.getD i [] ++ [(E.getD i []).getD m 0])) n i m (t + 1) := by
  have hl : i < G.length := by rw [h.len]; exact hi
  refine ⟨by simp [h.len], fun a ha => ?_, fun a ha => ?_, fun x => ?_, ?_⟩
  · rw [getD_set_row hl, if_neg (by omega)]; exact h.done a ha
  · rw [getD_set_row hl, if_neg (by omega)]; exact h.rest a ha
  · rw [getD_set_row hl, if_pos rfl, List.mem_append, List.mem_singleton, h.here x]
    constructor
    · rintro ((a | a) | a)
      · exact .inl a
      · exact .inr ⟨by omega, a.2⟩
      · exact .inr ⟨by omega, a⟩
    · rintro (a | a)
      · exact .inl (.inl a)
      · exact .inr a.2
  · rw [getD_set_row hl, if_pos rfl, List.length_append, List.length_singleton]
    have := h.short
    omega

theorem Tw.edge {E G : List (List Int)} {n i m t : Nat} (h : Tw E G n i m t) (ht : 0 < t) (ht3 : t ≤ 3) (hm : m < (E.getD i []).length) : Tw E G n i (m + 1) 0 := by
  refine ⟨h.len, h.done, h.rest, fun x => ?_, by have := h.short; omega⟩
  rw [h.here x, List.take_succ_eq_append_getElem hm, List.mem_append, List.mem_singleton]
  have e : (E.getD i []).getD m 0 = (E.getD i [])[m] := by rw [List.getD_eq_getElem?_getD, List.getElem?_eq_getElem hm, Option.getD_some]
  rw [e]
  constructor
  · rintro (a | a)
    · exact .inl (.inl a)
    · exact .inl (.inr a.2)
  · rintro ((a | a) | a)
    · exact .inl a
    · exact .inr ⟨ht, a⟩
    · omega

theorem Tw.row {E G : List (List Int)} {n i m : Nat} (h : Tw E G n i m 0) (hm : (E.getD i []).length ≤ m) (hm2 : m ≤ (E.getD i []).length) : Tw E G n (i + 1) 0 0 := by
  refine ⟨h.len, fun a ha => ?_, fun a ha => h.rest a (by omega), fun x => ?_, ?_⟩
  · by_cases e : a = i
    · subst e
      refine ⟨fun x => ?_, by have := h.short; omega⟩
      rw [h.here x, List.take_of_length_le hm]
      simp
    · exact h.done a (by omega)
  · rw [h.rest (i + 1) (by omega)]
    simp
  · rw [h.rest (i + 1) (by omega)]
    simp

theorem Tw.same {E G : List (List Int)} {n : Nat} (h : Tw E G n n 0 0) (hE : E.length = n) : SameRows E G := by
  intro i x
  by_cases hi : i < n
  · exact (h.done i hi).1 x
  · have h1 := h.len
    have e1 : G.getD i [] = [] := by simp [List.getElem?_eq_none (show G.length ≤ i by omega)]
    have e2 : E.getD i [] = [] := by simp [List.getElem?_eq_none (show E.length ≤ i by omega)]
    rw [e1, e2]

theorem Tw.small {E G : List (List Int)} {n i m t : Nat} (h : Tw E G n i m t) (hE : ∀ e ∈ E, e.length ≤ 200) (a : Nat) (ha : a < i) : (G.getD a []).length ≤ 600 := by
  have h1 := (h.done a ha).2
  rcases getD_mem_or (E := E) a with h2 | h2
  · have := hE _ h2; omega
  · rw [h2] at h1
    simp only [List.length_nil] at h1
    omega

end Go.Proofs.Ytecegbgebefheaa
