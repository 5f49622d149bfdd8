/- The contract of Facts.behind: bit j of entry i says whether there is a way from i to j. For facts that may be. -/
import Derived.Test.YtecegbgebefheaaRight
import Derived.Test.YtecegbgebefheaaMath
namespace Go.Proofs.Ytecegbgebefheaa
open Go.Sep Go.RowKit

theorem pow64 {N : Nat} (h : N ≤ 64) : 2 ^ N ≤ 18446744073709551616 := by
  have := Nat.pow_le_pow_right (n := 2) (by omega) h
  simpa using this

theorem wrap_pow {t : Int} (h0 : 0 ≤ t) (h : t < 64) : IntKind.u64.wrap (2 ^ t.toNat) = ((2 ^ t.toNat : Nat) : Int) := by
  have h1 : (2 : Nat) ^ t.toNat < 2 ^ 64 := Nat.pow_lt_pow_right (by omega) (by omega)
  have h2 : ((2 : Int) ^ t.toNat) = ((2 ^ t.toNat : Nat) : Int) := by simp
  rw [h2]
  generalize (2 : Nat) ^ t.toNat = m at *
  simp only [IntKind.wrap, IntKind.bits, IntKind.signed]
  simp
  omega

theorem test_bit {v : Int} {m y : Nat} (hv : v = ((m : Nat) : Int)) (hm : m < 18446744073709551616) : (bits BinOp.and IntKind.u64 (v / 2 ^ y) 1 == 1) = m.testBit y := by
  subst hv
  have e : ((m : Int) / 2 ^ y) = ((m / 2 ^ y : Nat) : Int) := by
    have : ((2 : Int) ^ y) = ((2 ^ y : Nat) : Int) := by simp
    rw [this, Int.natCast_ediv]
  rw [e]
  have hd : m / 2 ^ y ≤ m := Nat.div_le_self _ _
  rw [and_one_u64 _ (by generalize m / 2 ^ y = q at *; omega) (by generalize m / 2 ^ y = q at *; omega)]
  rw [Nat.testBit_eq_decide_div_mod_eq, Bool.eq_iff_iff, beq_iff_eq, decide_eq_true_eq]
  clear e
  generalize m / 2 ^ y = q at *
  omega

set_option maxHeartbeats 4000000 in
theorem behind_any (N : Nat) (ao : Option Addr) (co : Nat) (E : List Rw) (ve : Value) (w : World) (hN : N ≤ 64) (hE : E.length = N) (hR : Rows w ao E) (hin : Inside N (E.map (·.2.2))) (hlen : ∀ e ∈ E, e.2.2.length ≤ maxLen) :
    Calls Try.prog 16 #[.agg #[.int .i64 N, .slice ao N co, ve]] w fun e w' => ∃ b zs, e = .returned (.slice (some ⟨b, 0, none⟩) N N) ∧ Holds w [vec (some ⟨b, 0, none⟩) N 45 1 (zs.map (Value.int IntKind.u64)), old w] w' ∧ zs.length = N ∧ ∀ i, i < N → rd zs i = W (E.map (·.2.2)) N i := by
  unfold maxLen at hlen
  have h64 := pow64 hN
  have hlt0 := fun k i => Nat.lt_of_lt_of_le (W_lt hin k i) h64
  have H64 := Lib.hid hlt0
  clear h64 hlt0
  have Hin := Lib.hid hin
  clear hin
  have hS := Holds.start w
  go_enter Try.func16, Try.ntmps16
  go_wp2_with (first | go_skip | go_big_skip | go_big_guard | (refine wpList_box hS rfl rfl rfl rfl ?_; clear hS; intro b1 w1 hS) | (refine wpList_ldl hS rfl rfl rfl (by simp) ?_) | (at_make; refine wpList_make hS rfl rfl rfl rfl N rfl rfl rfl (bytes := 8) (size := 1) (z := .int .u64 0) (by rfl) rfl rfl (by omega) (by unfold maxLen; omega) ?_; clear hS; intro b2 w2 hS))
  go_loopg [16] N (fun k i wr => ∃ (j : Nat) (zs : List Int), j ≤ N ∧ k = N - j ∧ i = .int .i64 j ∧ zs.length = N ∧ (∀ i, i < N → rd zs i = if i < j then ((W (E.map (·.2.2)) 0 i : Nat) : Int) else 0) ∧ Holds w [vec (some ⟨b2, 0, none⟩) N 45 1 (zs.map (Value.int IntKind.u64)), blk b1 25 [Value.int IntKind.i64 ↑N, Value.slice ao N co, ve], old w] wr)
  case atStart => exact ⟨0, List.replicate N 0, Nat.zero_le _, rfl, rfl, by simp, fun i hi => by simp [rd, hi], by simpa using hS⟩
  case round =>
    clear hS
    obtain ⟨j, zs, hj, rfl, rfl, hzs, hval, hS⟩ := hrel
    have HV := Lib.hid hval
    have Hz := Lib.hid hzs
    clear hval hzs
    by_cases hlt : j < N
    · obtain ⟨b, off, hao, hc⟩ := hR.1.at (by simp; omega)
      obtain ⟨e, he⟩ : ∃ e, E[j]? = some e := ⟨E[j], by simp⟩
      have hem : e ∈ E := List.mem_of_getElem? he
      have hrow := hR.2 e hem
      have hine := Hin.out e.2.2 (List.mem_map_of_mem hem)
      have hlene := hlen e hem
      have hcj : w.cell? ⟨b, off + j, none⟩ = some (Rw.val e) := hc j _ (by simp [he])
      subst hao
      clear hc hem
      obtain ⟨ra, rc, rz⟩ := e
      simp only [Rw.val] at hcj
      dsimp only at hrow hine hlene
      have HE := Lib.hid he
      have HI := Lib.hid hine
      clear he hine
      have HR := Lib.hid hR
      clear hR
      go_wp2_with (first | go_skip | go_big_skip | go_big_guard | (refine wpList_ldl hS rfl rfl rfl (by simp) ?_) | (refine wpList_ldo hS rfl rfl rfl (by with_reducible assumption) (by simp) ?_))
      go_loopg [23] rz.length (fun k i wr => ∃ (m : Nat) (zs : List Int), m ≤ rz.length ∧ k = rz.length - m ∧ i = .int .i64 m ∧ zs.length = N ∧ (∀ i, i < N → rd zs i = if i < j then ((W (E.map (·.2.2)) 0 i : Nat) : Int) else if i = j then ((rowBits (rz.take m) : Nat) : Int) else 0) ∧ Holds w [vec (some ⟨b2, 0, none⟩) N 45 1 (zs.map (Value.int IntKind.u64)), blk b1 25 [Value.int IntKind.i64 ↑N, Value.slice (some ⟨b, off, none⟩) N co, ve], old w] wr)
      case atStart => exact ⟨0, zs, Nat.zero_le _, rfl, rfl, Hz.out, fun i hi => by rw [HV.out i hi]; split <;> simp [rowBits], hS⟩
      case round =>
        clear hS HV
        obtain ⟨m, ys, hm, rfl, rfl, hys, hval, hS⟩ := hrel
        have HV := Lib.hid hval
        clear hval
        by_cases hmt : m < rz.length
        · obtain ⟨b', off', hao, hc⟩ := hrow.at (by simp; omega)
          have hcm : w.cell? ⟨b', off' + m, none⟩ = some (.int .i64 (rd rz m)) := hc m _ (map_rd _ hmt)
          have hr1 : 0 ≤ rd rz m ∧ rd rz m < N := by rw [rd_eq hmt]; exact HI.out _ (by simp)
          obtain ⟨hr1, hr2⟩ := hr1
          subst hao
          clear hc
          have hjl : j < ys.length := by omega
          have Hy := Lib.hid hys
          clear hys
          go_wp2_with (first | go_skip | go_big_skip | go_big_guard | (refine wpList_ldl hS rfl rfl rfl (by simp) ?_) | (refine wpList_ldo hS rfl rfl rfl (by with_reducible assumption) (by simp) ?_))
          refine wp_region_text 8 (by kernel_rfl) (by kernel_rfl) (by kernel_rfl) ?_
          (try simp only [List.take_succ_cons, List.take_zero, List.drop_succ_cons, List.drop_zero])
          replace hS := hS.drew
          go_wp2_with (first | go_skip | go_big_skip | go_big_guard | (refine wpList_ldi hS rfl rfl rfl (by simp) (by (try simp only [List.length_set]); omega) ?_))
          refine headQ_intro ?_
          go_wp2_with (first | go_skip | go_big_skip | go_big_guard | (refine wpList_sti hS rfl rfl rfl rfl (by simp) (by (try simp only [List.length_map, List.length_set]); omega) ?_; clear hS; intro w1 hS))
          go_roundg (rz.length - (m + 1))
          case rel =>
            refine ⟨m + 1, _, by omega, rfl, by go_num, ?_, ?_, hS⟩
            · simp; exact Hy.out
            · intro i hi
              have hy := Hy.out
              rw [rd_set (by omega)]
              have hv := HV.out i hi
              by_cases e : i = j
              · subst e
                simp only [Nat.lt_irrefl, if_false, if_true] at hv ⊢
                have hl : rowBits (rz.take m) < 18446744073709551616 := Nat.lt_of_lt_of_le (rowBits_lt fun x hx => HI.out x (List.mem_of_mem_take hx)) (pow64 hN)
                have hp : 2 ^ (rd rz m).toNat < 18446744073709551616 := Nat.lt_of_lt_of_le (Nat.pow_lt_pow_right (by omega) (show (rd rz m).toNat < N by omega)) (pow64 hN)
                rw [hv, wrap_pow hr1 (by omega), bits_or_u64_nat _ _ hl hp, List.take_succ_eq_append_getElem hmt, rowBits_snoc, rd_eq hmt]
              · simp only [e, if_false]
                rw [hv]
                simp only [e, if_false]
          case measure => omega
        · go_wp2_with (first | go_skip | go_big_skip | go_big_guard | (refine wpList_ldl hS rfl rfl rfl (by simp) ?_) | (refine wpList_ldo hS rfl rfl rfl (by with_reducible assumption) (by simp) ?_))
          go_roundg (N - (j + 1))
          case rel =>
            refine ⟨j + 1, ys, by omega, rfl, by go_num, hys, fun i hi => ?_, hS⟩
            rw [HV.out i hi]
            by_cases e : i = j
            · subst e
              rw [if_neg (by omega), if_pos rfl, if_pos (by omega), List.take_of_length_le (by omega)]
              simp [W, HE.out]
            · by_cases e' : i < j
              · rw [if_pos e', if_pos (by omega)]
              · rw [if_neg e', if_neg e, if_neg (by omega)]
          case measure => omega
    · go_wp2_with (first | go_skip | go_big_skip | go_big_guard | (refine wpList_ldl hS rfl rfl rfl (by simp) ?_) | (refine wpList_ldo hS rfl rfl rfl (by with_reducible assumption) (by simp) ?_))
      go_loopg [39] N (fun k i wr => ∃ (y : Nat) (zs : List Int), y ≤ N ∧ k = N - y ∧ i = .int .i64 y ∧ zs.length = N ∧ (∀ i, i < N → rd zs i = ((W (E.map (·.2.2)) y i : Nat) : Int)) ∧ Holds w [vec (some ⟨b2, 0, none⟩) N 45 1 (zs.map (Value.int IntKind.u64)), blk b1 25 [Value.int IntKind.i64 ↑N, Value.slice ao N co, ve], old w] wr)
      case atStart => exact ⟨0, zs, Nat.zero_le _, rfl, rfl, Hz.out, fun i hi => by rw [HV.out i hi, if_pos (by omega)], hS⟩
      case round =>
        clear hS HV Hz
        obtain ⟨y, zs, hy, rfl, rfl, hzs, hval, hS⟩ := hrel
        have HV := Lib.hid hval
        have Hz := Lib.hid hzs
        clear hval hzs
        by_cases hyt : y < N
        · go_wp2_with (first | go_skip | go_big_skip | go_big_guard | (refine wpList_ldl hS rfl rfl rfl (by simp) ?_) | (refine wpList_ldo hS rfl rfl rfl (by with_reducible assumption) (by simp) ?_))
          go_loopg [44] N (fun k i wr => ∃ (x : Nat) (zs : List Int), x ≤ N ∧ k = N - x ∧ i = .int .i64 x ∧ zs.length = N ∧ (∀ i, i < N → rd zs i = if i < x then ((W (E.map (·.2.2)) (y + 1) i : Nat) : Int) else ((W (E.map (·.2.2)) y i : Nat) : Int)) ∧ Holds w [vec (some ⟨b2, 0, none⟩) N 45 1 (zs.map (Value.int IntKind.u64)), blk b1 25 [Value.int IntKind.i64 ↑N, Value.slice ao N co, ve], old w] wr)
          case atStart => exact ⟨0, zs, Nat.zero_le _, rfl, rfl, Hz.out, fun i hi => by rw [HV.out i hi, if_neg (by omega)], hS⟩
          case round =>
            clear hS HV Hz
            obtain ⟨x, zs, hx, rfl, rfl, hzs, hval, hS⟩ := hrel
            have HV := Lib.hid hval
            clear hval
            by_cases hxt : x < N
            · have hxl : x < zs.length := by omega
              have hyl : y < zs.length := by omega
              have Hz := Lib.hid hzs
              clear hzs
              have hx1 := HV.out x (by omega)
              rw [if_neg (by omega)] at hx1
              have HT := Lib.hid (test_bit (y := y) hx1 (H64.out y x))
              by_cases htb : (W (E.map (·.2.2)) y x).testBit y = true
              · have hgo := HT.out
                rw [htb] at hgo
                clear hx1
                go_wp2_with (first | go_skip | go_big_skip | go_big_guard | (refine wpList_ldi hS rfl rfl rfl (by simp) (by (try simp only [List.length_set]); omega) ?_))
                refine wp_region_text 10 (by kernel_rfl) (by kernel_rfl) (by kernel_rfl) ?_
                (try simp only [List.take_succ_cons, List.take_zero, List.drop_succ_cons, List.drop_zero])
                replace hS := hS.drew
                go_wp2_with (first | go_skip | go_big_skip | go_big_guard | (refine wpList_ldi hS rfl rfl rfl (by simp) (by (try simp only [List.length_set]); omega) ?_))
                refine headQ_intro ?_
                go_wp2_with (first | go_skip | go_big_skip | go_big_guard | (refine wpList_sti hS rfl rfl rfl rfl (by simp) (by (try simp only [List.length_map, List.length_set]); omega) ?_; clear hS; intro w1 hS))
                go_roundg (N - (x + 1))
                case rel =>
                  refine ⟨x + 1, _, by omega, rfl, by go_num, ?_, ?_, hS⟩
                  · simp; exact Hz.out
                  · intro i hi
                    have hz := Hz.out
                    rw [rd_set (by omega)]
                    have hvx := HV.out x (by omega)
                    rw [if_neg (by omega)] at hvx
                    have hvy := HV.out y (by omega)
                    have hvy' : rd zs y = ((W (E.map (·.2.2)) y y : Nat) : Int) := by
                      rw [hvy]
                      split
                      · rw [W_self]
                      · rfl
                    by_cases e : i = x
                    · subst e
                      rw [if_pos rfl, if_pos (by omega), hvx, hvy', bits_or_u64_nat _ _ (H64.out _ _) (H64.out _ _), W, if_pos htb]
                    · rw [if_neg e, HV.out i hi]
                      by_cases e' : i < x
                      · rw [if_pos e', if_pos (by omega)]
                      · rw [if_neg e', if_neg (by omega)]
                case measure => omega
              · have hgo := HT.out
                have htb' : (W (E.map (·.2.2)) y x).testBit y = false := by simpa using htb
                rw [htb'] at hgo
                clear hx1
                go_wp2_with (first | go_skip | go_big_skip | go_big_guard | (refine wpList_ldi hS rfl rfl rfl (by simp) (by (try simp only [List.length_set]); omega) ?_))
                go_roundg (N - (x + 1))
                case rel =>
                  refine ⟨x + 1, zs, by omega, rfl, by go_num, Hz.out, fun i hi => ?_, hS⟩
                  rw [HV.out i hi]
                  by_cases e : i = x
                  · subst e
                    rw [if_neg (by omega), if_pos (by omega), W, if_neg htb]
                  · by_cases e' : i < x
                    · rw [if_pos e', if_pos (by omega)]
                    · rw [if_neg e', if_neg (by omega)]
                case measure => omega
            · go_wp2_with (first | go_skip | go_big_skip | go_big_guard | (refine wpList_ldi hS rfl rfl rfl (by simp) (by (try simp only [List.length_set]); omega) ?_))
              go_roundg (N - (y + 1))
              case rel => exact ⟨y + 1, zs, by omega, rfl, by go_num, hzs, fun i hi => by rw [HV.out i hi, if_pos (by omega)], hS⟩
              case measure => omega
        · go_wp2_with (first | go_skip | go_big_skip | go_big_guard | (refine wpList_ldi hS rfl rfl rfl (by simp) (by (try simp only [List.length_set]); omega) ?_))
          go_ret
          have hyN : y = N := by omega
          subst hyN
          exact ⟨b2, zs, rfl, hS.skip1, Hz.out, HV.out⟩

end Go.Proofs.Ytecegbgebefheaa
