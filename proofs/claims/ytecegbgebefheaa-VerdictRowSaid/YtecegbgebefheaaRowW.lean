/- The Go function VerdictRow returns true: its walk. For all arguments that can be read. -/
import Derived.Test.YtecegbgebefheaaLaw
import Derived.Test.YtecegbgebefheaaRowM
set_option linter.unusedSimpArgs false
set_option linter.unusedVariables false
namespace Go.Proofs.Ytecegbgebefheaa
open Go.Sep Go.RowKit

theorem mask_small (x : Nat) (h : x < 65536) : bits BinOp.and IntKind.i64 (x : Int) 65535 = x := by
  have h1 : (BitVec.ofInt 64 (x : Int)).toNat = x := by
    rw [BitVec.ofInt_natCast, BitVec.toNat_ofNat]
    exact Nat.mod_eq_of_lt (by omega)
  have h2 : (BitVec.ofInt 64 (x : Int) &&& BitVec.ofInt 64 65535).toNat = x := by
    rw [BitVec.toNat_and, h1, show (BitVec.ofInt 64 65535).toNat = 2 ^ 16 - 1 by decide, Nat.and_two_pow_sub_one_of_lt_two_pow (by omega)]
  show IntKind.i64.wrap ((BitVec.ofInt 64 (x : Int) &&& BitVec.ofInt 64 65535).toNat : Int) = _
  rw [h2]
  simp only [IntKind.wrap, IntKind.bits, IntKind.signed]
  simp
  omega

theorem pickOf_small (x m : Nat) (h : x < m) (hm : m < 65536) : pickOf (x : Int) m = x := by
  unfold pickOf
  rw [mask_small x (by omega), Int.emod_eq_of_lt (by omega) (by omega), Int.toNat_natCast]

set_option maxRecDepth 100000 in
set_option maxHeartbeats 8000000 in
theorem row_any (aO : Option Addr) (cO : Nat) (own : List Int) (w : World) (hO : RowAt w aO (own.map (Value.int .u8))) (hb2 : Bytes own) (hm2 : own.length ≤ maxLen) :
    Calls Try.prog 6 #[.slice aO own.length cO] w fun e w' => e = .returned (.bool true) ∧ Holds w [old w] w' := by
  obtain ⟨n, hn⟩ : ∃ n : Nat, n = min own.length 64 := ⟨_, rfl⟩
  have hnl : n < 65 := by omega
  have hmade := fun w1 (h : Holds w [old w] w1) => made_any n n none aO 0 cO [] own w1 (by rw [pickOf_small n 65 hnl (by omega)]) (.inl rfl) (hO.keep h) (fun p hp => by cases hp) hb2 (Nat.zero_le _) hm2
  have HM := Lib.hid hmade
  have HNN := Lib.hid hn
  clear hmade hO hb2 hn
  unfold maxLen at hm2
  have hS := Holds.start w
  go_enter Try.func6, Try.ntmps6
  go_upto_region 2 with (first | go_skip | go_big_skip | go_big_guard | (go_at_call 9; refine (shown_any _).mono ?_; rintro e w' ⟨rfl, hS'⟩; replace hS := hS.over hS'; clear hS'))
  go_cut [4] from 11 (fun s wx => s = .int .i64 n ∧ Holds w [old w] wx)
  case first =>
    by_cases hle : own.length ≤ 64
    · obtain rfl : n = own.length := by have := HNN.out; omega
      go_wp2_with (first | go_skip | go_big_skip | go_big_guard)
      all_goals
        go_meet
        case rel => exact ⟨rfl, hS⟩
    · obtain rfl : n = 64 := by have := HNN.out; omega
      go_wp2_with (first | go_skip | go_big_skip | go_big_guard)
      all_goals
        go_meet
        case rel => exact ⟨rfl, hS⟩
  case rest =>
    clear hS
    obtain ⟨rfl, hS⟩ := hcut
    go_wp2_with (first | go_skip | go_big_skip | go_big_guard | (refine wpList_ldal (t := 25) hS rfl rfl rfl (by simp) (Try.sizeOf25 _) ?_) | (refine wpList_sta hS rfl rfl rfl rfl (by simp) (by simp [Value.oneCell']) (by simp) ?_; clear hS; intro w1 hS) | (refine wpList_alloc hS (t := 25) rfl rfl (by simp; rfl) (vs := [.int .i64 0, .slice none 0 0, .slice none 0 0]) rfl ?_; clear hS; intro b8 w1 hS) | (go_at_call 14; refine (HM.out _ hS).mono ?_; rintro e w' ⟨bE, bO, R, rfl, hR, hS'⟩; replace hS := graftN [_, _, _] hS hS'; simp only [List.cons_append, List.nil_append] at hS; clear hS'; have HR := Lib.hid hR; clear hR))
    go_loopg [6] n (fun k p wr => ∃ (j : Nat) (R : List Rw), j ≤ n ∧ k = n - j ∧ p = .int .i64 j ∧ R.map (·.2.2) = rowE n j ∧
      Holds w [blk b8 25 [.int .i64 n, .slice (some ⟨bE, 0, none⟩) n n, .slice (some ⟨bO, 0, none⟩) n n], vec (some ⟨bE, 0, none⟩) n 23 1 (R.map Rw.val), rowsP R, vec (some ⟨bO, 0, none⟩) n 3 1 ((madeO n own).map (Value.int .i64)), old w] wr)
    case atStart => exact ⟨0, R, Nat.zero_le _, rfl, rfl, by rw [HR.out, rowE_zero]; rfl, hS⟩
    case round =>
      clear hS HR
      obtain ⟨j, R, hj, rfl, rfl, hR, hS⟩ := hrel
      have hRl : R.length = n := by
        have := congrArg List.length hR
        rwa [List.length_map, rowE_length] at this
      have HR := Lib.hid hR
      have HRL := Lib.hid hRl
      clear hR hRl
      by_cases hlt : j + 1 < n
      · have hjR : j < R.length := by have := HRL.out; omega
        go_wp2_with (first | go_skip | go_big_skip | go_big_guard | (refine wpList_ldl hS rfl rfl rfl (by simp) ?_) | (refine wpList_lit hS rfl rfl (size := 1) (by go_simp; rfl) rfl (by unfold maxLen; omega) ?_; clear hS; intro b w1 hS) | (refine wpList_sts hS rfl rfl rfl rfl (by simp) (by simpa using hjR) ?_; clear hS; intro w1 hS))
        go_roundg (n - (j + 1))
        case rel =>
          refine ⟨j + 1, R.set j (some ⟨b, 0, none⟩, 1, [(j : Int) + 1]), by omega, rfl, by go_num, ?_, ?_⟩
          · rw [rowE_succ n j hlt, ← HR.out, List.map_set]
            simp
          · have h1 := (rows_take (hS.pick [3, 0, 0, 0, 0, 0]) j hjR).weak
            have h2 : Holds w (rwP (some ⟨b, 0, none⟩, 1, [(j : Int) + 1]) :: rowsP (R.eraseIdx j) :: [_, _, _, _]) w1 := h1.pick [1, 0, 0, 0, 0, 0]
            have h3 := (rows_put h2 hjR).pick [1, 1, 0, 0, 0]
            have e : (R.map Rw.val).set j (.slice (some ⟨b, 0, none⟩) 1 1) = (R.set j (some ⟨b, 0, none⟩, 1, [(j : Int) + 1])).map Rw.val := by simp [List.map_set, Rw.val]
            rw [← e]
            exact h3
        case measure => omega
      · have HG := Lib.hid (show Good n (rowE n j) (madeO n own) from ⟨by omega, rowE_length _ _, madeO_length _ _, rowE_inside _ _, madeO_own _ _, rowE_short _ _⟩)
        have H := of_made (n := n) (bE := bE) (bO := bO) (w := wr) ⟨row_of hS bE, rowsP_at (hS.pick [2])⟩ (row_of hS bO) HR.out HG.out
        have hnn : ((n : Int) != (n : Int)) = false := by simp
        go_wp2_with (first | go_skip | go_big_skip | go_big_guard | (refine wpList_ldal (t := 25) hS rfl rfl rfl (by simp) (Try.sizeOf25 _) ?_) | (refine wpList_ldl hS rfl rfl rfl (by simp) ?_) | (go_at_call 11; refine H.mono ?_; rintro e w5 ⟨bv, out, rfl, hS', hol, hov⟩; replace hS := hS.graft hS'; clear hS' H; have HOL := Lib.hid hol; have HOV := Lib.hid hov; clear hol hov))
        have c82 : w5.cell? ⟨b8, 2, none⟩ = some (.slice (some ⟨bO, 0, none⟩) n n) := hS.cell b8 2 rfl
        have HS := Lib.hid hS
        clear hS
        have hS := Holds.start w5
        have hcO : ∀ i, i < n → w5.cell? ⟨bO, i, none⟩ = some (.int .i64 (rd (madeO n own) i)) := fun i h => HS.out.cell bO i (map_rd _ (by rw [madeO_length]; exact h))
        have hcV : ∀ i, i < n → w5.cell? ⟨bv, i, none⟩ = some (.int .i64 (Vd n (rowE n j) (madeO n own) i)) := fun i h => by
          rw [← HOV.out i h]
          exact HS.out.cell bv i (map_rd _ (by rw [HOL.out]; exact h))
        have hdone : Holds w [old w] w5 := HS.out.oldOnly
        have HCO := Lib.hid hcO
        have HCV := Lib.hid hcV
        have HD := Lib.hid hdone
        have hmath := fun i (hi : i < n) => row_math (j := j) (by omega) HG.out.sol i hi
        have hvals := fun i (hi : i < n) => row_vals (j := j) HG.out.at HG.out.sol i hi
        have HMA := Lib.hid hmath
        have HVA := Lib.hid hvals
        clear hcO hcV hdone HS HM HOL HOV hmath hvals
        generalize Vd n (rowE n j) (madeO n own) = V at *
        go_loopg [9, 10] n (fun k p q wr => ∃ (t : Nat) (now : Int), t ≤ n ∧ t = k ∧ p = .int .i64 now ∧ q = .int .i64 t ∧ now = (if t < n then V t else 5) ∧ w5 = wr)
        case atStart => exact ⟨n, 5, Nat.le_refl _, rfl, rfl, rfl, by rw [if_neg (by omega)], rfl⟩
        case round =>
          obtain ⟨t, now, ht, rfl, rfl, rfl, hnow, rfl⟩ := hrel
          cases t with
          | zero =>
            go_wp2_with (first | go_skip | go_big_skip | go_big_guard | (refine wpList_ldo hS rfl rfl rfl (by with_reducible assumption) (by simp) ?_))
            go_ret
            exact ⟨rfl, HD.out⟩
          | succ s =>
            have hm := HMA.out s (by omega)
            rw [← hnow] at hm
            have cO := HCO.out s (by omega)
            have cV := HCV.out s (by omega)
            have ho := HG.out.at s (by omega)
            rw [show (madeO n own).getD s 0 = rd (madeO n own) s from rfl] at hm ho
            have hnv : now = 0 ∨ now = 5 ∨ now = 6 := by
              rw [hnow]
              split
              · rename_i h; exact HVA.out _ h
              · exact .inr (.inl rfl)
            have HN := Lib.hid hnow
            clear hnow
            have hnext : V s = (if s < n then V s else 5) := by rw [if_pos (by omega)]
            have HX := Lib.hid hnext
            clear hnext
            rw [hm] at cV
            have HM1 := Lib.hid hm
            clear hm
            rcases ho with ho | ho | ho
            all_goals
              rw [ho] at cO cV HM1
              clear ho
              rcases hnv with rfl | rfl | rfl
              all_goals
                simp [bend] at cV
                go_wp2_with (first | go_skip | go_big_skip | go_big_guard | (refine wpList_ldo hS rfl rfl rfl (by with_reducible assumption) (by simp) ?_))
                go_roundg s
                case rel => exact ⟨s, _, by omega, rfl, rfl, rfl, by rw [← HX.out, HM1.out]; decide, rfl⟩
                case measure => omega

end Go.Proofs.Ytecegbgebefheaa
