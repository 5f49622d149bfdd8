/- What the function few keeps: plain lemmas. -/
import Derived.Test.YtecegbgebefheaaPiece
set_option linter.unusedSimpArgs false
set_option linter.unusedVariables false
namespace Go.Proofs.Ytecegbgebefheaa
open Go.Sep Go.RowKit

theorem RowAt.take {w : World} {ao : Option Addr} {xs : List Value} (h : RowAt w ao xs) (k : Nat) : RowAt w ao (xs.take k) := by
  rcases h with rfl | ⟨b, off, e, hc⟩
  · exact .inl (by simp)
  · refine .inr ⟨b, off, e, fun i u hu => hc i u ?_⟩
    rw [List.getElem?_take] at hu
    split at hu
    · exact hu
    · cases hu

/-- The rows kept: the first j cut to twenty, of the others nothing yet. -/
def fewE (E : List (List Int)) : List (List Int) := (E.take 70).map (·.take 20)
def fewO (O : List Int) : List Int := O.take 70

/-- What the array of rows holds while the first j are copied. -/
structure Hdr (E R : List Rw) (n j : Nat) (H : List Value) : Prop where
  len : H.length = n
  rlen : R.length = n
  got : ∀ a, a < j → H[a]? = (R.map Rw.val)[a]?
  yet : ∀ a, j ≤ a → a < n → H[a]? = (E.map Rw.val)[a]?
  row : ∀ a, a < j → (R.map (·.2.2))[a]? = ((E.map (·.2.2))[a]?).map (·.take 20)

theorem Hdr.start (E : List Rw) (n : Nat) (hn : n = min E.length 70) : Hdr E (List.replicate n (none, 0, [])) n 0 ((E.take 70).map Rw.val) := by
  refine ⟨by simp; omega, by simp, fun a h => by omega, fun a _ h => ?_, fun a h => by omega⟩
  rw [List.getElem?_map, List.getElem?_map, List.getElem?_take, if_pos (by omega)]

theorem Hdr.next {E R : List Rw} {n j : Nat} {H : List Value} (h : Hdr E R n j H) (hj : j < n) {e r : Rw} (he : E[j]? = some e) (hr : r.2.2 = e.2.2.take 20) : Hdr E (R.set j r) n (j + 1) (H.set j (Rw.val r)) := by
  have h1 := h.len
  have h2 := h.rlen
  refine ⟨by simp [h1], by simp [h2], fun a ha => ?_, fun a ha hn => ?_, fun a ha => ?_⟩
  · rw [List.map_set, List.getElem?_set, List.getElem?_set]
    by_cases ej : j = a
    · subst ej
      simp [h1, h2, hj]
    · simp only [ej, if_false]
      exact h.got a (by omega)
  · rw [List.getElem?_set, if_neg (by omega)]
    exact h.yet a (by omega) hn
  · rw [List.map_set, List.getElem?_set]
    by_cases ej : j = a
    · subst ej
      simp [h2, hj, he, hr]
    · simp only [ej, if_false]
      exact h.row a (by omega)

theorem Hdr.done {E R : List Rw} {n : Nat} {H : List Value} (h : Hdr E R n n H) (hn : n = min E.length 70) : H = R.map Rw.val ∧ R.map (·.2.2) = fewE (E.map (·.2.2)) := by
  have h1 := h.len
  have h2 := h.rlen
  constructor
  · apply List.ext_getElem?
    intro a
    by_cases ha : a < n
    · exact h.got a ha
    · rw [List.getElem?_eq_none (by omega), List.getElem?_eq_none (by simp; omega)]
  · apply List.ext_getElem?
    intro a
    by_cases ha : a < n
    · rw [h.row a ha, fewE]
      simp only [List.getElem?_map, List.getElem?_take, if_pos (show a < 70 by omega)]
    · rw [List.getElem?_eq_none (by simp; omega), List.getElem?_eq_none (by simp [fewE]; omega)]

end Go.Proofs.Ytecegbgebefheaa
