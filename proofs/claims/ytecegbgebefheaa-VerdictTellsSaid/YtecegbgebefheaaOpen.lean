/- What the arguments of a call read as, in the words of Sep. -/
import Derived.Test.YtecegbgebefheaaArms
import Derived.ProofKit
import Derived.OpenShut
import Derived.Below
import Derived.Deep.Slices
namespace Go.Sep
open Go.ChangeShapes Go.WideShapes Go.ChangeAt Go.RowKit

/-! ### Arguments, read -/

theorem below_of {w w' : World} (h : Holds w [old w] w') : Below w.heap.size w w' := by
  refine ⟨h.os, h.tape, h.output, h.size, fun k hk => ?_⟩
  obtain ⟨h1, h2, _, p, _, d, _⟩ := h.mem
  have e : w.heap[k]? = some w.heap[k] := by simp [hk]
  rw [e]
  exact p _ _ (d _ _ e)

theorem cell_spot {w : World} {a : Addr} {v : Value} (h : w.cell? a = some v) : a = ⟨a.block, a.off, none⟩ := by
  obtain ⟨b, o, s⟩ := a
  cases s with
  | none => rfl
  | some n =>
    unfold World.cell? at h
    split at h <;> simp at h

theorem add_plain (b o i : Nat) : (⟨b, o, none⟩ : Addr).add i = ⟨b, o + i, none⟩ := by
  unfold Addr.add
  split <;> simp_all

section
variable {H : Type} {enc : TypeId × Value → H} {P : Program} {w : World} {base : Nat} {sp : Nat → Bool} {held : Bool}

theorem row_arg {t e : TypeId} {k : IntKind} (ht : P.underlying t = some (.slice e)) (he : P.underlying e = some (.int k)) (hc : P.cellsOf e = 1) {ao : Option Addr} {len cap : Nat} {d : DataW H} {ps : List MemPlace}
    (h : DataW.Trod enc P w base sp held t (.slice ao len cap) d ps) :
    ∃ zs : List Int, zs.length = len ∧ RowAt w ao (zs.map (Value.int k)) ∧ (∀ n ∈ zs, (Lit.int k n).wf = true) ∧ zs.length ≤ maxLen := by
  obtain ⟨fuel, hf⟩ := h
  rcases open_ints ht he hc hf with ⟨hcs, _⟩ | ⟨a, l, c, zs, hcs, _, hl, hm, hz, _, hcell, hwz⟩
  · simp [Value.cells] at hcs
    obtain ⟨rfl, rfl, rfl⟩ := hcs
    exact ⟨[], rfl, .inl rfl, by simp, Nat.zero_le _⟩
  · simp [Value.cells] at hcs
    obtain ⟨rfl, rfl, rfl⟩ := hcs
    have hlz : len ≤ zs.length := by rw [hz]; split <;> omega
    have hlen : (zs.take len).length = len := by simp; omega
    refine ⟨zs.take len, hlen, ?_, fun n hn => hwz n (List.mem_of_mem_take hn), by rw [hlen]; omega⟩
    rcases Nat.eq_zero_or_pos len with h0 | h0
    · subst h0; exact .inl (by simp)
    · have h1 := hcell 0 (by omega)
      have ha : a = ⟨a.block, a.off, none⟩ := by
        rw [show a.add 0 = a from rfl] at h1
        exact cell_spot h1
      refine .inr ⟨a.block, a.off, by rw [← ha], fun i u hu => ?_⟩
      rw [List.getElem?_map, List.getElem?_take] at hu
      split at hu
      · rename_i hi
        have h2 := hcell i (by omega)
        rw [ha, add_plain] at h2
        rw [h2]
        rw [List.getElem?_eq_getElem (by omega)] at hu
        simp only [Option.map_some, Option.some.injEq] at hu
        rw [← hu]
        simp [show i < zs.length by omega]
      · cases hu

theorem wf_u8 {n : Int} (h : (Lit.int .u8 n).wf = true) : 0 ≤ n ∧ n < 256 := by
  simp [Lit.wf, IntKind.min, IntKind.max, IntKind.signed, IntKind.bits] at h
  omega

theorem pair_arg {t e q : TypeId} (ht : P.underlying t = some (.slice e)) (he : P.underlying e = some (.array 2 q)) (hq : P.underlying q = some (.int .u8)) (ce : P.cellsOf e = 2) (cq : P.cellsOf q = 1)
    {ao : Option Addr} {len cap : Nat} {d : DataW H} {ps : List MemPlace} (h : DataW.Trod enc P w base sp held t (.slice ao len cap) d ps) :
    ∃ es : List (Int × Int), es.length = len ∧ (es = [] ∨ ∃ b off, ao = some ⟨b, off, none⟩ ∧ ∀ i p, es[i]? = some p → w.cell? ⟨b, off + i * 2, none⟩ = some (.int .u8 p.1) ∧ w.cell? ⟨b, off + i * 2 + 1, none⟩ = some (.int .u8 p.2)) ∧
      (∀ p ∈ es, 0 ≤ p.1 ∧ p.1 < 256 ∧ 0 ≤ p.2 ∧ p.2 < 256) ∧ es.length ≤ maxLen := by
  obtain ⟨fuel, hf⟩ := h
  rcases Deep.open_slice ht hf with ⟨hcs, _⟩ | ⟨a, l, c, m, n, D, Pl, hcs, _, hl, hm, hmm, _, hx⟩
  · simp [Value.cells] at hcs
    obtain ⟨rfl, rfl, rfl⟩ := hcs
    exact ⟨[], rfl, .inl rfl, by simp, Nat.zero_le _⟩
  · simp [Value.cells] at hcs
    obtain ⟨rfl, rfl, rfl⟩ := hcs
    have hlm : len ≤ m := by rw [hmm]; split <;> omega
    have each : ∀ i, i < m → ∃ p : Int × Int, w.cell? (a.add (i * 2)) = some (.int .u8 p.1) ∧ w.cell? ((a.add (i * 2)).add 1) = some (.int .u8 p.2) ∧ 0 ≤ p.1 ∧ p.1 < 256 ∧ 0 ≤ p.2 ∧ p.2 < 256 := by
      intro i hi
      obtain ⟨cs', h1, h2⟩ := hx i hi
      rw [ce] at h1
      obtain ⟨_, hlen, hcell⟩ := World.cells?_some h1
      obtain ⟨xs, k, _, _, _, hxl, hg⟩ := DataW.trod_array he h2
      match xs, hxl, cs', hlen with
      | [y0, y1], _, [v0, v1], _ =>
        have g0 := hg 0 (by omega)
        have g1 := hg 1 (by omega)
        simp [cq] at g0 g1
        have e0 := hcell 0 (by omega)
        have e1 := hcell 1 (by omega)
        obtain ⟨n0, c0, _, wf0⟩ := DataW.trod_int hq g0
        obtain ⟨n1, c1, _, wf1⟩ := DataW.trod_int hq g1
        simp only [List.cons.injEq, and_true] at c0 c1
        subst c0 c1
        exact ⟨(n0, n1), e0, by simpa using e1, (wf_u8 wf0).1, (wf_u8 wf0).2, (wf_u8 wf1).1, (wf_u8 wf1).2⟩
    obtain ⟨q, hq⟩ := Deep.choose_lt each
    refine ⟨(List.range len).map q, by simp, ?_, fun p hp => ?_, by simp; omega⟩
    · rcases Nat.eq_zero_or_pos len with h0 | h0
      · subst h0; exact .inl rfl
      · have h1 := (hq 0 (by omega)).1
        have ha : a = ⟨a.block, a.off, none⟩ := by
          rw [show a.add (0 * 2) = a from rfl] at h1
          exact cell_spot h1
        refine .inr ⟨a.block, a.off, by rw [← ha], fun i p hp => ?_⟩
        rw [List.getElem?_map] at hp
        obtain ⟨j, hj, rfl⟩ := Option.map_eq_some_iff.1 hp
        obtain ⟨hil, hj'⟩ := List.getElem?_eq_some_iff.1 hj
        simp only [List.getElem_range] at hj'
        subst hj'
        have h2 := hq i (by simp at hil; omega)
        rw [ha, add_plain, add_plain] at h2
        exact ⟨h2.1, h2.2.1⟩
    · obtain ⟨i, hi, rfl⟩ := List.mem_map.1 hp
      exact (hq i (by simp at hi; omega)).2.2

end
end Go.Sep
