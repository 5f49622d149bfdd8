/- What an argument of type Facts reads as. -/
import Derived.Test.YtecegbgebefheaaOpen
import Derived.Test.YtecegbgebefheaaRight
import Derived.Deep.Matrix
import Derived.Lib.SmallJoins
set_option linter.unusedSimpArgs false
set_option linter.unusedVariables false
namespace Go.Proofs.Ytecegbgebefheaa
open Go.ChangeShapes Go.WideShapes Go.ChangeAt Go.RowKit Go.Sep

section
variable {H : Type} {enc : TypeId × Value → H} {P : Program} {w : World} {base : Nat} {held : Bool}

theorem spot_row {k : IntKind} {a : Addr} {zs : List Int} {l : Nat} (hl : l ≤ zs.length) (hc : ∀ c, c < l → w.cell? (a.add c) = some (.int k (zs.getD c 0))) : RowAt w (some a) ((zs.take l).map (Value.int k)) := by
  rcases Nat.eq_zero_or_pos l with h0 | h0
  · subst h0; exact .inl (by simp)
  · have h1 := hc 0 h0
    have ha : a = ⟨a.block, a.off, none⟩ := cell_spot (by rwa [show a.add 0 = a from rfl] at h1)
    refine .inr ⟨a.block, a.off, by rw [← ha], fun i u hu => ?_⟩
    rw [List.getElem?_map, List.getElem?_take] at hu
    split at hu
    · rename_i hi
      have h2 := hc i hi
      rw [ha, Sep.add_plain] at h2
      rw [h2]
      rw [List.getElem?_eq_getElem (by omega)] at hu
      simp only [Option.map_some, Option.some.injEq] at hu
      rw [← hu]
      simp [show i < zs.length by omega]
    · cases hu

theorem ints_of {t e : TypeId} {k : IntKind} {fuel : Nat} {c : Value} {x : DataW H × List MemPlace} (ht : P.underlying t = some (.slice e)) (he : P.underlying e = some (.int k)) (ce : P.cellsOf e = 1)
    (h : DataW.trod enc P w base (fun _ => true) held fuel t [c] = some x) : ∃ (ao : Option Addr) (cap : Nat) (zs : List Int), c = .slice ao zs.length cap ∧ zs.length ≤ cap ∧ cap ≤ maxLen ∧ RowAt w ao (zs.map (Value.int k)) := by
  rcases open_ints ht he ce h with ⟨hcs, _⟩ | ⟨a, l, cap, zs, hcs, _, hl, hm, hz, _, hcell, _⟩
  · simp only [List.cons.injEq, and_true] at hcs
    subst hcs
    exact ⟨none, 0, [], rfl, Nat.le_refl _, Nat.zero_le _, .inl rfl⟩
  · simp only [List.cons.injEq, and_true] at hcs
    subst hcs
    simp only [if_true] at hz
    have hlen : (zs.take l).length = l := by simp; omega
    exact ⟨some a, cap, zs.take l, by rw [hlen], by rw [hlen]; exact hl, hm, spot_row (by omega) fun c hc => hcell c (by omega)⟩

theorem rows_of {t e q : TypeId} {fuel : Nat} {c : Value} {x : DataW H × List MemPlace} (ht : P.underlying t = some (.slice e)) (he : P.underlying e = some (.slice q)) (hq : P.underlying q = some (.int .i64)) (ce : P.cellsOf e = 1) (cq : P.cellsOf q = 1)
    (h : DataW.trod enc P w base (fun _ => true) held fuel t [c] = some x) : ∃ (ao : Option Addr) (cap : Nat) (E : List Rw), c = .slice ao E.length cap ∧ E.length ≤ cap ∧ cap ≤ maxLen ∧ Rows w ao E ∧ ∀ e ∈ E, e.2.2.length ≤ e.2.1 ∧ e.2.1 ≤ maxLen := by
  rcases Deep.open_int_rows ht he hq ce cq h with ⟨hcs, _⟩ | ⟨a, len, cap, A, L, C, Z, hcs, _, hl, hm, _, hr⟩
  · simp only [List.cons.injEq, and_true] at hcs
    subst hcs
    exact ⟨none, 0, [], rfl, Nat.le_refl _, Nat.zero_le _, ⟨.inl rfl, fun e he => by cases he⟩, fun e he => by cases he⟩
  · simp only [List.cons.injEq, and_true] at hcs
    subst hcs
    have hlz : ∀ r, r < len → ((Z r).take (L r)).length = L r := fun r hr' => by
      obtain ⟨_, h2, _, h4, _⟩ := hr r (by omega)
      simp
      omega
    refine ⟨some a, cap, (List.range len).map fun r => (A r, C r, (Z r).take (L r)), by simp, by simpa using hl, hm, ⟨?_, ?_⟩, ?_⟩
    · rcases Nat.eq_zero_or_pos len with h0 | h0
      · subst h0; exact .inl rfl
      · have h1 := (hr 0 (by omega)).1
        have ha : a = ⟨a.block, a.off, none⟩ := cell_spot (by rwa [show a.add 0 = a from rfl] at h1)
        refine .inr ⟨a.block, a.off, by rw [← ha], fun i u hu => ?_⟩
        rw [List.map_map, List.getElem?_map] at hu
        obtain ⟨j, hj, rfl⟩ := Option.map_eq_some_iff.1 hu
        obtain ⟨hil, hj'⟩ := List.getElem?_eq_some_iff.1 hj
        simp only [List.getElem_range] at hj'
        subst hj'
        have hil' : i < len := by simpa using hil
        have h2 := (hr i (by omega)).1
        rw [ha, Sep.add_plain] at h2
        rw [h2]
        simp only [Function.comp, Rw.val, hlz i hil']
    · intro e he
      obtain ⟨r, hrr, rfl⟩ := List.mem_map.1 he
      have hrl : r < len := by simpa using hrr
      obtain ⟨_, h2, _, h4, _, h6, h7⟩ := hr r (by omega)
      show RowAt w (A r) (((Z r).take (L r)).map (Value.int .i64))
      cases hA : A r with
      | none =>
        have := h6 hA
        exact .inl (by rw [show L r = 0 by omega]; simp)
      | some a' => exact spot_row (by omega) fun c hc => (h7 a' hA).2 c (by omega)
    · intro e he
      obtain ⟨r, hrr, rfl⟩ := List.mem_map.1 he
      have hrl : r < len := by simpa using hrr
      obtain ⟨_, h2, h3, _⟩ := hr r (by omega)
      dsimp only
      rw [hlz r hrl]
      exact ⟨h2, h3⟩

end
end Go.Proofs.Ytecegbgebefheaa
