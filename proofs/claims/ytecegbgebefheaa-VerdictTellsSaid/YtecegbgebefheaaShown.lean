/- The contract of shown: it returns true. -/
import Derived.Test.YtecegbgebefheaaSame
import Derived.Test.YtecegbgebefheaaOf
namespace Go.Proofs.Ytecegbgebefheaa
open Go.Sep Go.RowKit

theorem cyc_iff {N : Nat} {E : List (List Int)} (hI : Inside N E) (i : Nat) : Cyc E i ↔ ∃ j, j < N ∧ (W E N i).testBit j = true ∧ (W E N j).testBit j = true := by
  constructor
  · rintro ⟨j, h1, h2⟩
    exact ⟨j, h1.end_lt hI, (W_iff hI i j).2 h1, (W_iff hI j j).2 h2⟩
  · rintro ⟨j, _, h1, h2⟩
    exact ⟨j, (W_iff hI i j).1 h1, (W_iff hI j j).1 h2⟩

def cycB (N : Nat) (E : List (List Int)) (i : Nat) : Bool := (List.range N).any fun j => (W E N i).testBit j && (W E N j).testBit j

theorem cycB_iff {N : Nat} {E : List (List Int)} (hI : Inside N E) (i : Nat) : cycB N E i = true ↔ Cyc E i := by
  rw [cyc_iff hI, cycB, List.any_eq_true]
  constructor
  · rintro ⟨j, hj, h⟩
    exact ⟨j, List.mem_range.1 hj, by simpa using h⟩
  · rintro ⟨j, hj, h⟩
    exact ⟨j, List.mem_range.2 hj, by simpa using h⟩

def solB (N : Nat) (E : List (List Int)) (O : List Int) (V : Nat → Int) : Bool := (List.range N).all fun i => decide (V i = if cycB N E i then 7 else bends (O.getD i 0) ((E.getD i []).map fun x => V x.toNat))

theorem Sol.check {N : Nat} {E : List (List Int)} {O : List Int} {V : Nat → Int} (hI : Inside N E) (h : solB N E O V = true) : Sol N E O V := by
  rw [solB, List.all_eq_true] at h
  constructor
  · intro i hi hc
    have := of_decide_eq_true (h i (List.mem_range.2 hi))
    rwa [(cycB_iff hI i).2 hc, if_pos rfl] at this
  · intro i hi hc
    have := of_decide_eq_true (h i (List.mem_range.2 hi))
    rwa [Bool.eq_false_iff.2 fun k => hc ((cycB_iff hI i).1 k), if_neg (by simp)] at this

def E1 : List (List Int) := [[1], [0], [0], [4], [], [4, 3]]
def O1 : List Int := [5, 5, 6, 5, 5, 0]
def V1 : List Int := [7, 7, 7, 5, 5, 0]
def E2 : List (List Int) := [[1, 2], [], []]
def O2 : List Int := [0, 0, 6]
def V2 : List Int := [6, 0, 6]

theorem in1 : Inside 6 E1 := by unfold Inside E1; decide
theorem in2 : Inside 3 E2 := by unfold Inside E2; decide
theorem right1 : rightB (6 : Nat) E1 O1 = true := by decide
theorem right2 : rightB (3 : Nat) E2 O2 = true := by decide
theorem right3 : rightB (1 : Nat) [[1]] [0] = false := by decide
theorem sol1 : Sol 6 E1 O1 fun i => V1.getD i 0 := .check in1 (by kernel_rfl)
theorem sol2 : Sol 3 E2 O2 fun i => V2.getD i 0 := .check in2 (by kernel_rfl)

theorem row_of {w0 w : World} {L : List SP} (h : Holds w0 L w) (b : Nat) {xs : List Value} {T : TypeId} {mk : List Value → List SP} [F : Find L b xs T mk] : RowAt w (some ⟨b, 0, none⟩) xs :=
  .inr ⟨b, 0, rfl, fun i u hu => by rw [Nat.zero_add]; exact h.cell b i hu⟩

theorem row_none (w : World) : RowAt w none [] := .inl rfl

theorem of_lits (N : Nat) (aE aO : Option Addr) (cE cO : Nat) (E : List Rw) (O V : List Int) (w : World) (hR : Rows w aE E) (hRO : RowAt w aO (O.map (Value.int .i64))) (hm : ∀ e ∈ E, e.2.2.length ≤ maxLen) (hb : rightB N (E.map (·.2.2)) O = true)
    (hN : N ≤ 64) (hE : E.length = N) (hO : O.length = N) (hI : Inside N (E.map (·.2.2))) (hl : V.length = N) (hV : Sol N (E.map (·.2.2)) O fun i => V.getD i 0) :
    Calls Try.prog 11 #[.agg #[.int .i64 N, .slice aE N cE, .slice aO N cO]] w fun e w' => ∃ b, e = .returned (.tuple #[.slice (some ⟨b, 0, none⟩) N N, .int .i64 0]) ∧ Holds w [vec (some ⟨b, 0, none⟩) N 3 1 (V.map (Value.int .i64)), old w] w' := by
  refine (of_good N aE aO cE cO E O w hR hRO hm hb hN hE hO hI _ hV).mono ?_
  rintro e w' ⟨b, out, rfl, hS, ho, hv⟩
  have : out = V := rd_ext (by omega) fun i hi => hv i (by omega)
  subst this
  exact ⟨b, rfl, hS⟩

theorem rows_nil {w : World} : ∀ e ∈ ([] : List Rw), RowAt w e.1 (e.2.2.map (Value.int .i64)) := fun _ h => by cases h
theorem rows_cons {w : World} {r : Rw} {E : List Rw} (h : RowAt w r.1 (r.2.2.map (Value.int .i64))) (k : ∀ e ∈ E, RowAt w e.1 (e.2.2.map (Value.int .i64))) : ∀ e ∈ r :: E, RowAt w e.1 (e.2.2.map (Value.int .i64)) := List.forall_mem_cons.2 ⟨h, k⟩

theorem same_self (aa ab : Option Addr) (ca cb : Nat) (xs : List Int) (w : World) (ha : RowAt w aa (xs.map (Value.int .i64))) (hb : RowAt w ab (xs.map (Value.int .i64))) (hm : xs.length ≤ maxLen) :
    Calls Try.prog 13 #[.slice aa xs.length ca, .slice ab xs.length cb] w fun e w' => e = .returned (.bool true) ∧ Holds w [old w] w' := by
  have := same_any aa ab ca cb xs xs w ha hb hm
  rwa [decide_eq_true rfl] at this

theorem same_v1 {w : World} {bv b : Nat} (h : RowAt w (some ⟨bv, 0, none⟩) (V1.map (Value.int .i64))) (k : RowAt w (some ⟨b, 0, none⟩) [.int .i64 7, .int .i64 7, .int .i64 7, .int .i64 5, .int .i64 5, .int .i64 0]) :
    Calls Try.prog 13 #[.slice (some ⟨bv, 0, none⟩) 6 6, .slice (some ⟨b, 0, none⟩) 6 6] w fun e w' => e = .returned (.bool true) ∧ Holds w [old w] w' :=
  same_self (some ⟨bv, 0, none⟩) (some ⟨b, 0, none⟩) 6 6 V1 w h k (by simp [V1, maxLen])

theorem same_v2 {w : World} {bv b : Nat} (h : RowAt w (some ⟨bv, 0, none⟩) (V2.map (Value.int .i64))) (k : RowAt w (some ⟨b, 0, none⟩) [.int .i64 6, .int .i64 0, .int .i64 6]) :
    Calls Try.prog 13 #[.slice (some ⟨bv, 0, none⟩) 3 3, .slice (some ⟨b, 0, none⟩) 3 3] w fun e w' => e = .returned (.bool true) ∧ Holds w [old w] w' :=
  same_self (some ⟨bv, 0, none⟩) (some ⟨b, 0, none⟩) 3 3 V2 w h k (by simp [V2, maxLen])

set_option maxHeartbeats 8000000 in
theorem shown_any (w : World) : Calls Try.prog 9 #[] w fun e w' => e = .returned (.bool true) ∧ Holds w [old w] w' := by
  have hS := Holds.start w
  go_enter Try.func9, Try.ntmps9
  go_wp2_with (first | go_skip | go_big_skip | go_big_guard | (refine wpList_lit hS rfl rfl (size := 1) (by go_simp; rfl) rfl (by unfold maxLen; omega) ?_; clear hS; intro b w1 hS))
  rename_i b1 _ b2 _ b3 _ b4 _ b5 _ bE _ _ _
  have H := of_lits 6 (some ⟨bE, 0, none⟩) (some ⟨b, 0, none⟩) 6 6 [(some ⟨b1, 0, none⟩, 1, [1]), (some ⟨b2, 0, none⟩, 1, [0]), (some ⟨b3, 0, none⟩, 1, [0]), (some ⟨b4, 0, none⟩, 1, [4]), (none, 0, []), (some ⟨b5, 0, none⟩, 2, [4, 3])] O1 V1 w1
    ⟨row_of hS bE, rows_cons (row_of hS b1) (rows_cons (row_of hS b2) (rows_cons (row_of hS b3) (rows_cons (row_of hS b4) (rows_cons (row_none _) (rows_cons (row_of hS b5) rows_nil)))))⟩ (row_of hS b)
    (by simp [maxLen]) right1 (by omega) rfl rfl in1 rfl sol1
  replace hS := hS.oldOnly
  go_wp2_with (first | go_skip | go_big_skip | go_big_guard | (refine wpList_lit hS rfl rfl (size := 1) (by go_simp; rfl) rfl (by unfold maxLen; omega) ?_; clear hS; intro b w1 hS) | (go_at_call 11; refine H.mono ?_; rintro e w' ⟨bv, rfl, hS'⟩; replace hS := hS.graft hS'; clear hS' H))
  rename_i bR _ bE2 _ _ _
  have H := of_lits 3 (some ⟨bE2, 0, none⟩) (some ⟨b, 0, none⟩) 3 3 [(some ⟨bR, 0, none⟩, 2, [1, 2]), (none, 0, []), (none, 0, [])] O2 V2 w1
    ⟨row_of hS bE2, rows_cons (row_of hS bR) (rows_cons (row_none _) (rows_cons (row_none _) rows_nil))⟩ (row_of hS b)
    (by simp [maxLen]) right2 (by omega) rfl rfl in2 rfl sol2
  have hS' : Holds w [vec (some ⟨bv, 0, none⟩) 6 3 1 (V1.map (Value.int .i64)), old w] w1 := hS.pick [3, 3]
  clear hS
  have hS := hS'
  clear hS'
  go_wp2_with (first | go_skip | go_big_skip | go_big_guard | (refine wpList_lit hS rfl rfl (size := 1) (by go_simp; rfl) rfl (by unfold maxLen; omega) ?_; clear hS; intro b w1 hS) | (go_at_call 11; refine H.mono ?_; rintro e w' ⟨bv2, rfl, hS'⟩; replace hS := hS.graft hS'; clear hS' H))
  rename_i bR3 _ bE3 _ _ _
  have H := of_bad 1 (some ⟨bE3, 0, none⟩) (some ⟨b, 0, none⟩) 1 1 [(some ⟨bR3, 0, none⟩, 1, [1])] [0] w1
    ⟨row_of hS bE3, rows_cons (row_of hS bR3) rows_nil⟩ (row_of hS b) (by simp [maxLen]) right3
  have hS' : Holds w [vec (some ⟨bv, 0, none⟩) 6 3 1 (V1.map (Value.int .i64)), vec (some ⟨bv2, 0, none⟩) 3 3 1 (V2.map (Value.int .i64)), old w] w1 := hS.pick [4, 3, 3]
  clear hS
  have hS := hS'
  clear hS'
  go_wp2_with (first | go_skip | go_big_skip | go_big_guard | (refine wpList_lit hS rfl rfl (size := 1) (by go_simp; rfl) rfl (by unfold maxLen; omega) ?_; clear hS; intro b w1 hS) | (go_at_call 11; refine H.mono ?_; rintro e w' ⟨rfl, hS'⟩; replace hS := hS.over hS'; clear hS' H))
  have H := same_v1 (row_of hS bv) (row_of hS b)
  go_wp2_with (first | go_skip | go_big_skip | go_big_guard | (refine wpList_lit hS rfl rfl (size := 1) (by go_simp; rfl) rfl (by unfold maxLen; omega) ?_; clear hS; intro b w1 hS) | (go_at_call 13; refine H.mono ?_; rintro e w' ⟨rfl, hS'⟩; replace hS := hS.over hS'; clear hS' H))
  have H := same_v2 (row_of hS bv2) (row_of hS b)
  go_wp2_with (first | go_skip | go_big_skip | go_big_guard | (refine wpList_lit hS rfl rfl (size := 1) (by go_simp; rfl) rfl (by unfold maxLen; omega) ?_; clear hS; intro b w1 hS) | (go_at_call 13; refine H.mono ?_; rintro e w' ⟨rfl, hS'⟩; replace hS := hS.over hS'; clear hS' H))
  go_ret
  exact ⟨rfl, hS.oldOnly⟩

end Go.Proofs.Ytecegbgebefheaa
