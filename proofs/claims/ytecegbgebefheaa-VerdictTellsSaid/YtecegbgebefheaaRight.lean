/- The contract of Facts.right: it says whether the facts may be. For all arguments. -/
import Derived.Test.YtecegbgebefheaaProg
import Derived.Test.YtecegbgebefheaaArms
import Derived.Deep.LoopGhost
import Derived.Lib.Hide
namespace Go.Proofs.Ytecegbgebefheaa
open Go.Sep Go.RowKit

abbrev Rw := Option Addr × Nat × List Int
def Rw.val (r : Rw) : Value := .slice r.1 r.2.2.length r.2.1

/-- A slice of slices of numbers. -/
def Rows (w : World) (ao : Option Addr) (E : List Rw) : Prop := RowAt w ao (E.map Rw.val) ∧ ∀ e ∈ E, RowAt w e.1 (e.2.2.map (Value.int .i64))

theorem rd_set {zs : List Int} {i j : Nat} {v : Int} (h : i < zs.length) : rd (zs.set i v) j = if j = i then v else rd zs j := by
  unfold rd
  by_cases e : j = i
  · subst e; simp [h]
  · simp [e, Ne.symm e]

def ownB (n : Int) : Bool := decide (n = 0 ∨ n = 5 ∨ n = 6)

theorem own_any (n : Int) (w : World) : Calls Try.prog 22 #[.int .i64 n] w fun e w' => e = .returned (.bool (ownB n)) ∧ w' = w := by
  by_cases h0 : n = 0
  · subst h0
    go_enter Try.func22, Try.ntmps22
    go_wp2
    go_ret
    exact ⟨rfl, rfl⟩
  · by_cases h5 : n = 5
    · subst h5
      go_enter Try.func22, Try.ntmps22
      go_wp2
      go_ret
      exact ⟨rfl, rfl⟩
    · have e0 : (n == 0) = false := by simpa using h0
      have e5 : (n == 5) = false := by simpa using h5
      have e : ownB n = (n == 6) := by
        simp only [ownB, h0, h5, false_or]
        rw [Bool.eq_iff_iff]; simp
      go_enter Try.func22, Try.ntmps22
      go_wp2
      go_ret
      exact ⟨by rw [e]; rfl, rfl⟩

def strangeB (N n : Int) : Bool := decide (n < 0 ∨ N ≤ n)

theorem strange_any (n N : Int) (xs : List Value) (b : Nat) (w0 : World) (L : List SP) (mk : List Value → List SP) (w : World) [F : Find L b (.int .i64 N :: xs) 25 mk] (hS : Holds w0 L w) :
    Calls Try.prog 21 #[.int .i64 n, .pointer (some ⟨b, 0, none⟩)] w fun e w' => e = .returned (.bool (strangeB N n)) ∧ w' = w := by
  by_cases h0 : n < 0
  · go_enter Try.func21, Try.ntmps21
    go_wp2
    go_ret
    exact ⟨by simp [strangeB, h0], rfl⟩
  · go_enter Try.func21, Try.ntmps21
    go_wp2_with (first | go_skip | go_big_skip | go_big_guard | (refine wpList_ldl hS rfl rfl rfl (by simp) ?_))
    go_ret
    exact ⟨by simp [strangeB]; omega, rfl⟩

/-- 'slices.ContainsFunc' of a slice and 'strange'. -/
theorem find_any (N : Int) (ys : List Value) (b : Nat) (w0 : World) (L : List SP) (mk : List Value → List SP) (w : World) [F : Find L b (.int .i64 N :: ys) 25 mk] [HasOld L w0] (hS : Holds w0 L w) (ao : Option Addr) (cap : Nat) (zs : List Int) (hR : RowAt w0 ao (zs.map (Value.int .i64))) (hm : zs.length ≤ maxLen) :
    Calls Try.prog 25 #[.slice ao zs.length cap, .func (.func 21) #[] #[.pointer (some ⟨b, 0, none⟩)]] w fun e w' => ∃ r : Int, e = .returned (.int .i64 r) ∧ w' = w ∧ (decide (0 ≤ r) = zs.any (strangeB N)) := by
  unfold maxLen at hm
  go_enter Try.func25, Try.ntmps25
  go_wp2
  go_loopg [8] zs.length (fun k i wr => ∃ j : Nat, j ≤ zs.length ∧ k = zs.length - j ∧ i = .int .i64 j ∧ wr = w ∧ ∀ i, i < j → strangeB N (rd zs i) = false)
  case atStart => exact ⟨0, Nat.zero_le _, rfl, rfl, rfl, fun i h => by omega⟩
  case round =>
    obtain ⟨j, hj, rfl, rfl, rfl, hb⟩ := hrel
    by_cases hlt : j < zs.length
    · obtain ⟨b', off, rfl, hc⟩ := hR.at (by simpa using by omega)
      have hcj : w0.cell? ⟨b', off + j, none⟩ = some (.int .i64 (rd zs j)) := hc j _ (map_rd _ hlt)
      clear hc hR
      have HB := Lib.hid hb
      clear hb
      go_wp2_with (first | go_skip | go_big_skip | go_big_guard | (go_at_call 21; refine (strange_any _ N ys b w0 L mk _ hS).mono ?_; rintro e w' ⟨rfl, rfl⟩) | (refine wpList_ldo hS rfl rfl rfl (by with_reducible assumption) (by simp) ?_))
      · rename_i hs
        go_ret
        refine ⟨j, rfl, rfl, ?_⟩
        rw [show decide ((0 : Int) ≤ (j : Int)) = true by simp]
        symm
        rw [List.any_eq_true]
        exact ⟨zs[j], by simp, by rw [← rd_eq hlt]; exact hs⟩
      · rename_i hs
        go_roundg (zs.length - (j + 1))
        case rel => exact ⟨j + 1, by omega, rfl, by go_num, rfl, fun i hi => by
          by_cases e : i = j
          · subst e; exact hs
          · exact HB.out i (by omega)⟩
        case measure => omega
    · have HB := Lib.hid hb
      clear hb
      go_wp2
      go_ret
      refine ⟨-1, rfl, rfl, ?_⟩
      rw [show decide ((0 : Int) ≤ -1) = false by decide]
      symm
      rw [List.any_eq_false]
      intro x hx
      obtain ⟨i, hi, rfl⟩ := List.mem_iff_getElem.1 hx
      have := HB.out i (by omega)
      rw [rd_eq hi] at this
      simp [this]

theorem contains_any (N : Int) (ys : List Value) (b : Nat) (w0 : World) (L : List SP) (mk : List Value → List SP) (w : World) [F : Find L b (.int .i64 N :: ys) 25 mk] [HasOld L w0] (hS : Holds w0 L w) (ao : Option Addr) (cap : Nat) (zs : List Int) (hR : RowAt w0 ao (zs.map (Value.int .i64))) (hm : zs.length ≤ maxLen) :
    Calls Try.prog 23 #[.slice ao zs.length cap, .func (.func 21) #[] #[.pointer (some ⟨b, 0, none⟩)]] w fun e w' => e = .returned (.bool (zs.any (strangeB N))) ∧ w' = w := by
  go_enter Try.func23, Try.ntmps23
  go_wp2_with (go_at_call 25; refine (find_any N ys b w0 L mk _ hS ao cap zs hR hm).mono ?_; rintro e w' ⟨r, rfl, rfl, hr⟩; have HR := Lib.hid hr; clear hr)
  go_ret
  exact ⟨by rw [← HR.out]; rfl, rfl⟩

/-- May these facts be? -/
def rightB (N : Int) (E : List (List Int)) (O : List Int) : Bool :=
  decide (0 ≤ N ∧ N ≤ 64 ∧ (E.length : Int) = N ∧ (O.length : Int) = N) && O.all ownB && !(E.any fun e => e.any (strangeB N))

theorem rightB_no {N : Int} {E : List (List Int)} {O : List Int} (h : ¬ (0 ≤ N ∧ N ≤ 64 ∧ (E.length : Int) = N ∧ (O.length : Int) = N)) : rightB N E O = false := by
  simp only [rightB, h, decide_false, Bool.false_and]

set_option maxHeartbeats 4000000 in
theorem right_any (N : Int) (aE aO : Option Addr) (cE cO : Nat) (E : List Rw) (O : List Int) (w : World) (hE : Rows w aE E) (hO : RowAt w aO (O.map (Value.int .i64))) (hm : ∀ e ∈ E, e.2.2.length ≤ maxLen) :
    Calls Try.prog 15 #[.agg #[.int .i64 N, .slice aE E.length cE, .slice aO O.length cO]] w fun e w' => e = .returned (.bool (rightB N (E.map (·.2.2)) O)) ∧ Holds w [old w] w' := by
  have hS := Holds.start w
  by_cases h0 : N < 0
  · rw [rightB_no (by omega)]
    go_enter Try.func15, Try.ntmps15
    go_wp2_with (first | go_skip | go_big_skip | go_big_guard | (refine wpList_box hS rfl rfl rfl rfl ?_; clear hS; intro b1 w1 hS) | (refine wpList_ldl hS rfl rfl rfl (by simp) ?_))
    go_ret
    exact ⟨rfl, hS.oldOnly⟩
  by_cases h1 : 64 < N
  · rw [rightB_no (by omega)]
    go_enter Try.func15, Try.ntmps15
    go_wp2_with (first | go_skip | go_big_skip | go_big_guard | (refine wpList_box hS rfl rfl rfl rfl ?_; clear hS; intro b1 w1 hS) | (refine wpList_ldl hS rfl rfl rfl (by simp) ?_))
    go_ret
    exact ⟨rfl, hS.oldOnly⟩
  by_cases h2 : (E.length : Int) = N
  case neg =>
    rw [rightB_no (by simp; omega)]
    have h2' : ((E.length : Int) != N) = true := by simpa using h2
    go_enter Try.func15, Try.ntmps15
    go_wp2_with (first | go_skip | go_big_skip | go_big_guard | (refine wpList_box hS rfl rfl rfl rfl ?_; clear hS; intro b1 w1 hS) | (refine wpList_ldl hS rfl rfl rfl (by simp) ?_))
    go_ret
    exact ⟨rfl, hS.oldOnly⟩
  by_cases h3 : (O.length : Int) = N
  case neg =>
    rw [rightB_no (by simp; omega)]
    have h2' : ((E.length : Int) != N) = false := by simpa using h2
    have h3' : ((O.length : Int) != N) = true := by simpa using h3
    go_enter Try.func15, Try.ntmps15
    go_wp2_with (first | go_skip | go_big_skip | go_big_guard | (refine wpList_box hS rfl rfl rfl rfl ?_; clear hS; intro b1 w1 hS) | (refine wpList_ldl hS rfl rfl rfl (by simp) ?_))
    go_ret
    exact ⟨rfl, hS.oldOnly⟩
  subst h2
  have hr : rightB E.length (E.map (·.2.2)) O = (O.all ownB && !((E.map (·.2.2)).any fun e => e.any (strangeB E.length))) := by
    simp only [rightB]
    rw [decide_eq_true (by simp; omega), Bool.true_and]
  rw [hr]
  have HR := Lib.hid hr
  clear hr HR
  have hol : O.length = E.length := by omega
  have HO := Lib.hid hol
  have h2' : ((E.length : Int) != (E.length : Int)) = false := by simp
  have h3' : ((O.length : Int) != (E.length : Int)) = false := by simpa using h3
  clear h3 hol h0
  go_enter Try.func15, Try.ntmps15
  go_wp2_with (first | go_skip | go_big_skip | go_big_guard | (refine wpList_box hS rfl rfl rfl rfl ?_; clear hS; intro b1 w1 hS) | (refine wpList_ldl hS rfl rfl rfl (by simp) ?_))
  go_loopg [32] E.length (fun k i wr => ∃ j : Nat, j ≤ E.length ∧ k = E.length - j ∧ i = .int .i64 j ∧ (∀ i, i < j → ownB (rd O i) = true ∧ ∀ e, E[i]? = some e → e.2.2.any (strangeB E.length) = false) ∧ Holds w [blk b1 25 [Value.int IntKind.i64 E.length, Value.slice aE E.length cE, Value.slice aO O.length cO], old w] wr)
  case atStart => exact ⟨0, Nat.zero_le _, rfl, rfl, fun i h => by omega, hS⟩
  case round =>
    clear hS
    obtain ⟨j, hj, rfl, rfl, hb, hS⟩ := hrel
    have HB := Lib.hid hb
    clear hb
    by_cases hlt : j < E.length
    · obtain ⟨b, off, hao, hc⟩ := hE.1.at (by simp; omega)
      obtain ⟨e, he⟩ : ∃ e, E[j]? = some e := ⟨E[j], by simp⟩
      have hem : e ∈ E := List.mem_of_getElem? he
      have hrow := hE.2 e hem
      have hlene := hm e hem
      have hcj : w.cell? ⟨b, off + j, none⟩ = some (Rw.val e) := hc j _ (by simp [he])
      have hjo : j < O.length := by have := HO.out; omega
      obtain ⟨b', off', hao', hc'⟩ := hO.at (by simp; omega)
      have hco : w.cell? ⟨b', off' + j, none⟩ = some (.int .i64 (rd O j)) := hc' j _ (map_rd _ hjo)
      subst hao hao'
      clear hc hem hc'
      obtain ⟨ra, rc, rz⟩ := e
      simp only [Rw.val] at hcj
      dsimp only at hrow hlene
      have HE := Lib.hid he
      clear he
      have HH := Lib.hid hE
      have HOr := Lib.hid hO
      have Hm := Lib.hid hm
      clear hE hO hm
      by_cases ho : ownB (rd O j) = true
      · by_cases hs : rz.any (strangeB E.length) = true
        · go_wp2_with (first | go_skip | go_big_skip | go_big_guard | (go_at_call 22; refine (own_any _ _).mono ?_; rintro e w' ⟨rfl, rfl⟩) | (go_at_call 23; refine (contains_any _ _ b1 w _ _ _ hS _ _ rz hrow hlene).mono ?_; rintro e w' ⟨rfl, rfl⟩) | (refine wpList_ldl hS rfl rfl rfl (by simp) ?_) | (refine wpList_ldo hS rfl rfl rfl (by with_reducible assumption) (by simp) ?_))
          go_ret
          refine ⟨?_, hS.oldOnly⟩
          have hx : ((E.map (·.2.2)).any fun e => e.any (strangeB E.length)) = true := by
            rw [List.any_eq_true]
            exact ⟨rz, List.mem_map_of_mem (List.mem_of_getElem? HE.out), hs⟩
          rw [hx]
          simp
        · have hs' : rz.any (strangeB E.length) = false := by simpa using hs
          clear hs
          go_wp2_with (first | go_skip | go_big_skip | go_big_guard | (go_at_call 22; refine (own_any _ _).mono ?_; rintro e w' ⟨rfl, rfl⟩) | (go_at_call 23; refine (contains_any _ _ b1 w _ _ _ hS _ _ rz hrow hlene).mono ?_; rintro e w' ⟨rfl, rfl⟩) | (refine wpList_ldl hS rfl rfl rfl (by simp) ?_) | (refine wpList_ldo hS rfl rfl rfl (by with_reducible assumption) (by simp) ?_))
          go_roundg (E.length - (j + 1))
          case rel => exact ⟨j + 1, by omega, rfl, by go_num, fun i hi => by
            by_cases e : i = j
            · subst e
              refine ⟨ho, fun e he => ?_⟩
              rw [HE.out] at he
              cases he
              exact hs'
            · exact HB.out i (by omega), hS⟩
          case measure => omega
      · have ho' : ownB (rd O j) = false := by simpa using ho
        clear ho
        go_wp2_with (first | go_skip | go_big_skip | go_big_guard | (go_at_call 22; refine (own_any _ _).mono ?_; rintro e w' ⟨rfl, rfl⟩) | (go_at_call 23; refine (contains_any _ _ b1 w _ _ _ hS _ _ rz hrow hlene).mono ?_; rintro e w' ⟨rfl, rfl⟩) | (refine wpList_ldl hS rfl rfl rfl (by simp) ?_) | (refine wpList_ldo hS rfl rfl rfl (by with_reducible assumption) (by simp) ?_))
        go_ret
        refine ⟨?_, hS.oldOnly⟩
        have hx : O.all ownB = false := by
          rw [List.all_eq_false]
          exact ⟨O[j], by simp, by rw [← rd_eq hjo, ho']; simp⟩
        rw [hx]
        simp
    · go_wp2_with (first | go_skip | go_big_skip | go_big_guard | (refine wpList_ldl hS rfl rfl rfl (by simp) ?_))
      go_ret
      refine ⟨?_, hS.oldOnly⟩
      have hx : O.all ownB = true := by
        rw [List.all_eq_true]
        intro x hx
        obtain ⟨i, hi, rfl⟩ := List.mem_iff_getElem.1 hx
        have := (HB.out i (by have := HO.out; omega)).1
        rwa [rd_eq hi] at this
      have hy : ((E.map (·.2.2)).any fun e => e.any (strangeB E.length)) = false := by
        rw [List.any_eq_false]
        intro x hx
        obtain ⟨e, he, rfl⟩ := List.mem_map.1 hx
        obtain ⟨i, hi, rfl⟩ := List.mem_iff_getElem.1 he
        exact by simp [(HB.out i (by omega)).2 E[i] (by simp)]
      rw [hx, hy]
      simp

end Go.Proofs.Ytecegbgebefheaa
