/- The verdicts of a row in which each waits for the next one: plain lemmas. -/
import Derived.Test.YtecegbgebefheaaMadeM
set_option linter.unusedSimpArgs false
set_option linter.unusedVariables false
namespace Go.Proofs.Ytecegbgebefheaa

def rowE (n j : Nat) : List (List Int) := (List.range n).map fun i => if i < j ∧ i + 1 < n then [((i + 1 : Nat) : Int)] else []

theorem rowE_length (n j : Nat) : (rowE n j).length = n := by simp [rowE]

theorem rowE_get (n j i : Nat) (h : i < n) : (rowE n j).getD i [] = if i < j ∧ i + 1 < n then [((i + 1 : Nat) : Int)] else [] := by
  simp [rowE, h]

theorem rowE_zero (n : Nat) : rowE n 0 = List.replicate n [] := by
  apply List.ext_getElem
  · simp [rowE]
  · intro i h1 h2
    simp [rowE]

theorem rowE_succ (n j : Nat) (h : j + 1 < n) : rowE n (j + 1) = (rowE n j).set j [((j + 1 : Nat) : Int)] := by
  apply List.ext_getElem
  · simp [rowE]
  · intro i h1 h2
    simp only [rowE, List.getElem_map, List.getElem_range, List.getElem_set]
    by_cases e : j = i
    · subst e
      rw [if_pos ⟨by omega, by omega⟩, if_pos rfl]
    · rw [if_neg e]
      by_cases e2 : i < j ∧ i + 1 < n
      · rw [if_pos ⟨by omega, e2.2⟩, if_pos e2]
      · rw [if_neg (fun h => e2 ⟨by omega, h.2⟩), if_neg e2]

theorem rowE_inside (n j : Nat) : Inside n (rowE n j) := by
  intro e he x hx
  simp only [rowE, List.mem_map, List.mem_range] at he
  obtain ⟨i, hi, rfl⟩ := he
  split at hx
  · simp at hx
    omega
  · cases hx

theorem rowE_short (n j : Nat) : ∀ e ∈ rowE n j, e.length ≤ 1000 := by
  intro e he
  simp only [rowE, List.mem_map, List.mem_range] at he
  obtain ⟨i, hi, rfl⟩ := he
  split <;> simp

theorem rowE_way (n j : Nat) {a b : Nat} (h : Way (rowE n j) a b) : a < b := by
  induction h with
  | @one i k h =>
    unfold Ed at h
    by_cases hi : i < n
    · rw [rowE_get n j i hi] at h
      split at h
      · simp at h; omega
      · cases h
    · rw [show (rowE n j).getD i [] = [] by simp [List.getElem?_eq_none (show (rowE n j).length ≤ i by rw [rowE_length]; omega)]] at h
      cases h
  | @more i k l h _ ih =>
    unfold Ed at h
    by_cases hi : i < n
    · rw [rowE_get n j i hi] at h
      split at h
      · simp at h; omega
      · cases h
    · rw [show (rowE n j).getD i [] = [] by simp [List.getElem?_eq_none (show (rowE n j).length ≤ i by rw [rowE_length]; omega)]] at h
      cases h

theorem row_math {n j : Nat} {O : List Int} {V : Nat → Int} (hj : n ≤ j + 1) (h : Sol n (rowE n j) O V) (i : Nat) (hi : i < n) : V i = bend (O.getD i 0) (if i + 1 < n then V (i + 1) else 5) := by
  have hc : ¬ Cyc (rowE n j) i := fun ⟨k, _, h2⟩ => by have := rowE_way n j h2; omega
  rw [h.own i hi hc, rowE_get n j i hi]
  by_cases e : i + 1 < n
  · rw [if_pos ⟨by omega, e⟩, if_pos e]
    simp [bends]
  · rw [if_neg (fun h => e h.2), if_neg e]
    simp [bends, bend]

theorem row_vals {n j : Nat} {O : List Int} {V : Nat → Int} (hO : ∀ i, i < n → O.getD i 0 = 0 ∨ O.getD i 0 = 5 ∨ O.getD i 0 = 6) (h : Sol n (rowE n j) O V) (i : Nat) (hi : i < n) : V i = 0 ∨ V i = 5 ∨ V i = 6 :=
  h.vals hO i hi fun ⟨k, _, h2⟩ => by have := rowE_way n j h2; omega

end Go.Proofs.Ytecegbgebefheaa
