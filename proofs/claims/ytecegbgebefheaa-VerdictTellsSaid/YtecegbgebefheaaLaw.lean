/- What the laws of this seat share: good facts, and verdict.Of on what made makes. -/
import Derived.Test.YtecegbgebefheaaMade
import Derived.Test.YtecegbgebefheaaShown
namespace Go.Proofs.Ytecegbgebefheaa
open Go.Sep Go.RowKit

theorem graftN {w0 w w' : World} {L : List SP} (As : List SP) (h : Holds w0 L w) (h' : Holds w (As ++ [old w]) w') : Holds w0 (As ++ L) w' :=
  (h.graft (A := sat As) (h'.imp fun _ => sat_close)).imp fun _ => sat_open

/-- Facts that may be. -/
structure Good (n : Nat) (E : List (List Int)) (O : List Int) : Prop where
  small : n ≤ 64
  rows : E.length = n
  owns : O.length = n
  inside : Inside n E
  own : ∀ x ∈ O, x = 0 ∨ x = 5 ∨ x = 6
  short : ∀ e ∈ E, e.length ≤ 1000

theorem Good.right {n : Nat} {E : List (List Int)} {O : List Int} (h : Good n E O) : rightB (n : Int) E O = true := by
  unfold rightB
  have h1 := h.small
  have h2 := h.rows
  have h3 := h.owns
  rw [decide_eq_true (by omega)]
  have h4 : O.all ownB = true := by
    rw [List.all_eq_true]
    intro x hx
    have := h.own x hx
    simp [ownB, this]
  have h5 : (E.any fun e => e.any (strangeB n)) = false := by
    rw [List.any_eq_false]
    intro e he
    rw [Bool.not_eq_true, List.any_eq_false]
    intro x hx
    have := h.inside e he x hx
    simp [strangeB]
    omega
  rw [h4, h5]
  rfl

theorem Good.at {n : Nat} {E : List (List Int)} {O : List Int} (h : Good n E O) (i : Nat) (hi : i < n) : O.getD i 0 = 0 ∨ O.getD i 0 = 5 ∨ O.getD i 0 = 6 := by
  have := h.owns
  rw [show O.getD i 0 = O[i] by simp [show i < O.length by omega]]
  exact h.own _ (List.getElem_mem _)

theorem madeE_zero (es : List (Int × Int)) : madeE 0 es = [] := List.eq_nil_of_length_eq_zero (madeE_length 0 es)

theorem Good.made {n : Nat} (es : List (Int × Int)) (own : List Int) (hn : n < 65) : Good n (madeE n (es.take 200)) (madeO n own) where
  small := by omega
  rows := madeE_length _ _
  owns := madeO_length _ _
  inside := by
    rcases Nat.eq_zero_or_pos n with h | h
    · subst h
      rw [madeE_zero]
      intro e he
      cases he
    · exact madeE_inside n h _
  own := madeO_own _ _
  short := fun e he => by
    have := madeE_short n (es.take 200) e he
    simp at this
    omega

/-- The verdicts. -/
noncomputable def Vd (n : Nat) (E : List (List Int)) (O : List Int) : Nat → Int := Vf E O (n + 1)

theorem Good.sol {n : Nat} {E : List (List Int)} {O : List Int} (h : Good n E O) : Sol n E O (Vd n E O) := Sol.exist O h.inside

theorem of_made {n : Nat} {bE bO : Nat} {R : List Rw} {E : List (List Int)} {O : List Int} {w : World} (hR : Rows w (some ⟨bE, 0, none⟩) R) (hO : RowAt w (some ⟨bO, 0, none⟩) (O.map (Value.int .i64))) (hE : R.map (·.2.2) = E) (hg : Good n E O) :
    Calls Try.prog 11 #[.agg #[.int .i64 n, .slice (some ⟨bE, 0, none⟩) n n, .slice (some ⟨bO, 0, none⟩) n n]] w (OfGood w n (Vd n E O)) := by
  subst hE
  refine of_good n (some ⟨bE, 0, none⟩) (some ⟨bO, 0, none⟩) n n R O w hR hO ?_ hg.right hg.small (by simpa using hg.rows) hg.owns hg.inside _ hg.sol
  intro e he
  have := hg.short e.2.2 (List.mem_map_of_mem he)
  unfold maxLen
  omega

end Go.Proofs.Ytecegbgebefheaa
