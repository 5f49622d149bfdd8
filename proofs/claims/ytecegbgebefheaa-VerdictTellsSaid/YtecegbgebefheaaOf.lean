/- The contract of verdict.Of: ErrArg where the facts may not be, else the verdicts. -/
import Derived.Test.YtecegbgebefheaaRec
import Derived.Test.YtecegbgebefheaaMul
namespace Go.Proofs.Ytecegbgebefheaa
open Go.Sep Go.RowKit

theorem Rows.keep {w0 w : World} {L : List SP} {ao : Option Addr} {E : List Rw} (h : Rows w0 ao E) (hS : Holds w0 L w) [HasOld L w0] : Rows w ao E := ⟨h.1.keep hS, fun e he => (h.2 e he).keep hS⟩

set_option maxHeartbeats 4000000 in
theorem of_bad (N : Int) (aE aO : Option Addr) (cE cO : Nat) (E : List Rw) (O : List Int) (w : World) (hE : Rows w aE E) (hO : RowAt w aO (O.map (Value.int .i64))) (hm : ∀ e ∈ E, e.2.2.length ≤ maxLen) (hb : rightB N (E.map (·.2.2)) O = false) :
    Calls Try.prog 11 #[.agg #[.int .i64 N, .slice aE E.length cE, .slice aO O.length cO]] w fun e w' => e = .returned (.tuple #[.slice none 0 0, .int .i64 1]) ∧ Holds w [old w] w' := by
  have hS := Holds.start w
  go_enter Try.func11, Try.ntmps11
  go_wp2_with (first | go_skip | go_big_skip | go_big_guard | (refine wpList_box hS rfl rfl rfl rfl ?_; clear hS; intro b1 w1 hS) | (refine wpList_ldal (t := 25) hS rfl rfl rfl (by simp) (Try.sizeOf25 _) ?_) | (refine wpList_ldl hS rfl rfl rfl (by simp) ?_) | (go_at_call 15; refine (right_any N aE aO cE cO E O _ (hE.keep hS) (hO.keep hS) hm).mono ?_; rintro e w' ⟨rfl, hS'⟩; replace hS := hS.over hS'; clear hS'))
  go_ret2
  exact ⟨rfl, hS.oldOnly⟩

def rndOf (E : List (List Int)) (N : Nat) : Nat → Nat
  | 0 => 0
  | k + 1 => rndOf E N k ||| (W E N k &&& 2 ^ k)

theorem rndOf_lt {N : Nat} {E : List (List Int)} (hI : Inside N E) : ∀ k, rndOf E N k < 2 ^ N
  | 0 => Nat.two_pow_pos N
  | k + 1 => Nat.or_lt_two_pow (rndOf_lt hI k) (Nat.lt_of_le_of_lt Nat.and_le_left (W_lt hI N k))

theorem rndOf_bit (E : List (List Int)) (N : Nat) : ∀ k j, (rndOf E N k).testBit j = true ↔ j < k ∧ (W E N j).testBit j = true
  | 0, j => by simp [rndOf]
  | k + 1, j => by
    rw [rndOf, Nat.testBit_or, Bool.or_eq_true, rndOf_bit E N k j, Nat.testBit_and, Bool.and_eq_true, Nat.testBit_two_pow, decide_eq_true_eq]
    constructor
    · rintro (⟨h1, h2⟩ | ⟨h1, h2⟩)
      · exact ⟨by omega, h2⟩
      · subst h2; exact ⟨by omega, h1⟩
    · rintro ⟨h1, h2⟩
      by_cases e : j = k
      · subst e; exact .inr ⟨h2, rfl⟩
      · exact .inl ⟨by omega, h2⟩

def OfGood (w : World) (N : Nat) (V : Nat → Int) : Ending → World → Prop :=
  fun e w' => ∃ b out, e = .returned (.tuple #[.slice (some ⟨b, 0, none⟩) N N, .int .i64 0]) ∧ Holds w [vec (some ⟨b, 0, none⟩) N 3 1 (out.map (Value.int .i64)), old w] w' ∧ out.length = N ∧ ∀ i, i < N → rd out i = V i

set_option maxHeartbeats 8000000 in
theorem of_good (N : Nat) (aE aO : Option Addr) (cE cO : Nat) (E : List Rw) (O : List Int) (w : World) (hR : Rows w aE E) (hRO : RowAt w aO (O.map (Value.int .i64))) (hm : ∀ e ∈ E, e.2.2.length ≤ maxLen) (hb : rightB N (E.map (·.2.2)) O = true)
    (hN : N ≤ 64) (hE : E.length = N) (hO : O.length = N) (hI : Inside N (E.map (·.2.2))) (V : Nat → Int) (hV : Sol N (E.map (·.2.2)) O V) :
    Calls Try.prog 11 #[.agg #[.int .i64 N, .slice aE N cE, .slice aO N cO]] w (OfGood w N V) := by
  have hS := Holds.start w
  have HV := Lib.hid hV
  have HI := Lib.hid hI
  have HM := Lib.hid hm
  have HE := Lib.hid hE
  have HO := Lib.hid hO
  have HR := Lib.hid hR
  have HRO := Lib.hid hRO
  have HB := Lib.hid hb
  clear hV hI hm hE hO hR hRO hb
  have hright : ∀ w1, Rows w1 aE E → RowAt w1 aO (O.map (Value.int .i64)) → Calls Try.prog 15 #[.agg #[.int .i64 N, .slice aE N cE, .slice aO N cO]] w1 fun e w' => e = .returned (.bool true) ∧ Holds w1 [old w1] w' := fun w1 h1 h2 => by
    have := right_any N aE aO cE cO E O w1 h1 h2 HM.out
    rw [HE.out, HO.out, HB.out] at this
    exact this
  go_enter Try.func11, Try.ntmps11
  go_wp2_with (first | go_skip | go_big_skip | go_big_guard | (refine wpList_boxa hS rfl rfl rfl ?_; clear hS; intro b1 w1 hS) | (refine wpList_ldal (t := 25) hS rfl rfl rfl (by simp) (Try.sizeOf25 _) ?_) | (refine wpList_ldl hS rfl rfl rfl (by simp) ?_) | (go_at_call 15; refine (hright _ (HR.out.keep hS) (HRO.out.keep hS)).mono ?_; rintro e w' ⟨rfl, hS'⟩; replace hS := hS.over hS'; clear hS') | (go_at_call 16; refine (behind_any N aE cE E _ _ hN HE.out (HR.out.keep hS) HI.out HM.out).mono ?_; rintro e w' ⟨bw, beh, rfl, hS', hbl, hbe⟩; replace hS := hS.graft hS'; have HBL := Lib.hid hbl; have HBE := Lib.hid hbe; clear hS' hbl hbe) | (refine wpList_alloc hS (t := 43) rfl rfl (by simp; rfl) (vs := [.slice none 0 0]) rfl ?_; clear hS; intro b2 w2 hS) | (refine wpList_alloc hS (t := 45) rfl rfl (by simp; rfl) (vs := [.int .u64 0]) rfl ?_; clear hS; intro b3 w3 hS) | (refine wpList_sts hS rfl rfl rfl rfl (by simp) (by simp) ?_; clear hS; intro w1 hS) | (refine wpList_sti hS rfl rfl rfl rfl (by simp) (by simp) ?_; clear hS; intro w1 hS))
  go_loopg [18] N (fun k i wr => ∃ j : Nat, j ≤ N ∧ k = N - j ∧ i = .int .i64 j ∧ Holds w (blk b3 45 [.int .u64 ((rndOf (E.map (·.2.2)) N j : Nat) : Int)] :: [blk b2 43 [.slice (some ⟨bw, 0, none⟩) N N], vec (some ⟨bw, 0, none⟩) N 45 1 (beh.map (Value.int .u64)), blk b1 25 [.int .i64 N, .slice aE N cE, .slice aO N cO], old w]) wr)
  case atStart => exact ⟨0, Nat.zero_le _, rfl, rfl, hS⟩
  case round =>
    clear hS
    obtain ⟨j, hj, rfl, rfl, hS⟩ := hrel
    by_cases hlt : j < N
    · have hjb : j < beh.length := by have := HBL.out; omega
      go_wp2_with (first | go_skip | go_big_skip | go_big_guard | (refine wpList_ldl hS rfl rfl rfl (by simp) ?_) | (refine wpList_ldi hS rfl rfl rfl (by simp) (by (try simp only [List.length_set]); omega) ?_))
      refine wp_region_text 6 (by kernel_rfl) (by kernel_rfl) (by kernel_rfl) ?_
      (try simp only [List.take_succ_cons, List.take_zero, List.drop_succ_cons, List.drop_zero])
      replace hS := hS.drew
      go_wp2_with (first | go_skip | go_big_skip | go_big_guard | (refine wpList_ldl hS rfl rfl rfl (by simp) ?_) | (refine wpList_ldi hS rfl rfl rfl (by simp) (by (try simp only [List.length_set]); omega) ?_))
      refine headQ_intro ?_
      have e : bits BinOp.or IntKind.u64 ((rndOf (E.map (·.2.2)) N j : Nat) : Int) (bits BinOp.and IntKind.u64 (rd beh j) (IntKind.u64.wrap (2 ^ j))) = ((rndOf (E.map (·.2.2)) N (j + 1) : Nat) : Int) := by
        have h64 := pow64 hN
        have h1 := Nat.lt_of_lt_of_le (rndOf_lt HI.out j) h64
        have h2 := Nat.lt_of_lt_of_le (W_lt HI.out N j) h64
        have h3 : (2 : Nat) ^ j < 18446744073709551616 := Nat.lt_of_lt_of_le (Nat.pow_lt_pow_right (by omega) hlt) h64
        have hw := wrap_pow (t := (j : Int)) (by omega) (by omega)
        simp only [Int.toNat_natCast] at hw
        have h4 : W (E.map (·.2.2)) N j &&& 2 ^ j < 18446744073709551616 := Nat.lt_of_le_of_lt Nat.and_le_left h2
        rw [HBE.out j hlt, hw, bits_and_u64_nat _ _ h2 h3, bits_or_u64_nat _ _ h1 h4]
        rfl
      have EE := Lib.hid e
      clear e
      go_wp2_with (first | go_skip | go_big_skip | go_big_guard | (refine wpList_sti hS rfl rfl rfl rfl (by simp) (by simp) ?_; clear hS; intro w1 hS))
      rw [EE.out] at hS
      go_roundg (N - (j + 1))
      case rel => exact ⟨j + 1, by omega, rfl, by go_num, hS⟩
      case measure => omega
    · have hjN : N = j := by omega
      subst hjN
      go_wp2_with (first | go_skip | go_big_skip | go_big_guard | (refine wpList_ldl hS rfl rfl rfl (by simp) ?_) | (refine wpList_lit hS (n := 1) rfl rfl (vs := [.int .i64 (-1)]) (e := 3) (size := 1) (by go_simp) rfl (by unfold maxLen; omega) ?_; clear hS; intro b4 w4 hS) | (go_at_call 17; go_loud (refine (repeat_any N ⟨b4, 0, none⟩ _ _ hN (hS.cell b4 0 rfl)).mono ?_); rintro e w' ⟨bd, rfl, hS'⟩; replace hS := hS.graft hS'; clear hS') | (refine wpList_alloc hS (t := 23) rfl rfl (by simp; rfl) (vs := [.slice none 0 0]) rfl ?_; clear hS; intro b5 w5 hS) | (refine wpList_alloc hS (t := 47) rfl rfl (by simp; rfl) (vs := [.nilFunc]) rfl ?_; clear hS; intro b6 w6 hS) | (refine wpList_sts hS rfl rfl rfl rfl (by simp) (by simp) ?_; clear hS; intro w1 hS) | (refine wpList_stf hS rfl rfl rfl rfl (by simp) (by simp) ?_; clear hS; intro w1 hS))
      have hrl := Nat.lt_of_lt_of_le (rndOf_lt HI.out N) (pow64 hN)
      have hrn : ∀ j, (rndOf (E.map (·.2.2)) N N).testBit j = true ↔ Way (E.map (·.2.2)) j j := fun j => by
        rw [rndOf_bit, W_iff HI.out]
        exact ⟨And.right, fun h => ⟨h.end_lt HI.out, h⟩⟩
      have HRN := Lib.hid hrn
      have HRL := Lib.hid hrl
      clear hrl hrn
      have hS' : Holds w (Ctx N bd b5 b1 bw b2 b3 b6 aE aO cE cO (rndOf (E.map (·.2.2)) N N) w beh (List.replicate N (-1))) w1 := hS.pick [2, 1, 5, 3, 3, 2, 0, 1]
      clear hS
      go_loopg [37] N (fun k i wr => ∃ (y : Nat) (out : List Int), y ≤ N ∧ k = N - y ∧ i = .int .i64 y ∧ out.length = N ∧ (∀ j, j < N → rd out j = -1 ∨ rd out j = V j) ∧ (∀ j, j < y → rd out j = V j) ∧
        Holds w (Ctx N bd b5 b1 bw b2 b3 b6 aE aO cE cO (rndOf (E.map (·.2.2)) N N) w beh out) wr)
      case atStart => exact ⟨0, List.replicate N (-1), Nat.zero_le _, rfl, rfl, by simp, fun j hj => .inl (by simp [rd, hj]), fun j hj => by omega, hS'⟩
      case round =>
        clear hS'
        obtain ⟨y, out, hy, rfl, rfl, hol, hok, hdone, hS⟩ := hrel
        have HOL := Lib.hid hol
        have HOK := Lib.hid hok
        have HD := Lib.hid hdone
        clear hol hok hdone
        by_cases hyt : y < N
        · go_wp2_with (first | go_skip | go_big_skip | go_big_guard | (refine wpList_ldl hS rfl rfl rfl (by simp) ?_) | (go_at_call 18; refine (of1_any N bd b5 b1 bw b2 b3 b6 aE aO cE cO _ w beh E O V hN HE.out HO.out HR.out HRO.out HI.out HM.out HBL.out HBE.out HRL.out HRN.out HV.out _ y out _ (Nat.lt_succ_self _) hyt HOL.out (fun j hj _ => HOK.out j hj) hS).mono ?_; rintro e w' ⟨out', rfl, hS', hl', hc', hj'⟩; clear hS; have hS := hS'; clear hS'; have HL1 := Lib.hid hl'; have HC1 := Lib.hid hc'; have HJ1 := Lib.hid hj'; clear hl' hc' hj'))
          go_roundg (N - (y + 1))
          case rel =>
            refine ⟨y + 1, out', by omega, rfl, by go_num, HL1.out, fun j hj => ?_, fun j hj => ?_, hS⟩
            · rcases HJ1.out j hj with h | h
              · rw [h]; exact HOK.out j hj
              · exact .inr h.2
            · by_cases e : j = y
              · subst e; exact HC1.out
              · rcases HJ1.out j (by omega) with h | h
                · rw [h]; exact HD.out j (by omega)
                · exact h.2
          case measure => omega
        · go_wp2_with (first | go_skip | go_big_skip | go_big_guard | (refine wpList_ldl hS rfl rfl rfl (by simp) ?_))
          go_ret2
          have hyN : N = y := by omega
          subst hyN
          exact ⟨bd, out, rfl, hS.pick [0, 6], HOL.out, HD.out⟩

end Go.Proofs.Ytecegbgebefheaa
