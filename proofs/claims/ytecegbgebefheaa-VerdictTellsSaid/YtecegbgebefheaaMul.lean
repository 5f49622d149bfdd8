/- The contract of slices.Repeat at one element, up to 64 times. -/
import Derived.Test.YtecegbgebefheaaBehind
import Derived.Test.YtecegbgebefheaaSched
import Derived.Maps.RangeWalk
namespace Go.Proofs.Ytecegbgebefheaa
open Go.Sep Go.RowKit

set_option maxHeartbeats 4000000 in
theorem mul64_any (N : Nat) (w : World) (hN : N ≤ 64) : Calls Try.prog 27 #[.int .u64 1, .int .u64 N] w fun e w' => e = .returned (.tuple #[.int .u64 0, .int .u64 N]) ∧ w' = w := by
  have h0 : bits BinOp.and IntKind.u64 (N : Int) 4294967295 = N := by
    have := bits_and_u64_nat N 4294967295 (by omega) (by omega)
    rw [show ((4294967295 : Nat) : Int) = 4294967295 from rfl] at this
    rw [this, show (4294967295 : Nat) = 2 ^ 32 - 1 from rfl, Nat.and_two_pow_sub_one_of_lt_two_pow (by omega)]
  have h1 : bits BinOp.and IntKind.u64 1 4294967295 = 1 := by decide
  have h2 : (N : Int) / 4294967296 = 0 := by omega
  have h3 : bits BinOp.and IntKind.u64 0 4294967295 = 0 := by decide
  have h4 : IntKind.u64.wrap (N : Int) = N := by
    simp only [IntKind.wrap, IntKind.bits, IntKind.signed]
    simp
    omega
  have h5 : IntKind.u64.wrap 0 = 0 := by decide
  go_enter Try.func27, Try.ntmps27
  go_wp2_with fail
  go_ret2
  refine ⟨?_, rfl⟩
  rfl

set_option maxHeartbeats 4000000 in
theorem mul_any (N : Nat) (w : World) (hN : N ≤ 64) : Calls Try.prog 24 #[.int .u64 1, .int .u64 N] w fun e w' => e = .returned (.tuple #[.int .u64 0, .int .u64 N]) ∧ w' = w := by
  go_enter Try.func24, Try.ntmps24
  go_wp2_with (go_at_call 27; refine (mul64_any N _ hN).mono ?_; rintro e w' ⟨rfl, rfl⟩)
  go_ret2
  exact ⟨rfl, rfl⟩

set_option maxHeartbeats 4000000 in
theorem repeat_any (N : Nat) (ao : Addr) (cap : Nat) (w : World) (hN : N ≤ 64) (hc : w.cell? ao = some (.int .i64 (-1))) :
    Calls Try.prog 17 #[.slice (some ao) 1 cap, .int .i64 N] w fun e w' => ∃ b, e = .returned (.slice (some ⟨b, 0, none⟩) N N) ∧ Holds w [vec (some ⟨b, 0, none⟩) N 3 1 ((List.replicate N (-1 : Int)).map (Value.int .i64)), old w] w' := by
  have hS := Holds.start w
  have h4 : IntKind.u64.wrap (N : Int) = N := by
    simp only [IntKind.wrap, IntKind.bits, IntKind.signed]
    simp
    omega
  have hc0 := hc
  have HC := Lib.hid hc
  clear hc
  go_enter Try.func17, Try.ntmps17
  go_wp2_with (first | go_skip | go_big_skip | go_big_guard | (go_at_call 24; refine (mul_any N _ hN).mono ?_; rintro e w' ⟨rfl, rfl⟩) | (at_make; refine wpList_make hS rfl rfl rfl rfl N rfl rfl rfl (bytes := 8) (size := 1) (z := .int .i64 0) (by rfl) rfl rfl (by omega) (by unfold maxLen; omega) ?_; clear hS; intro b2 w2 hS) | (refine wpList_cp hS (d := .tmp 31) rfl rfl rfl rfl rfl rfl ((List.replicate (min 1 N) (-1 : Int)).map (Value.int .i64)) (by simp) ?hs1 (by simp [Value.oneCell']) (by simp; omega) ?_))
  case hs1 =>
    intro j v hj
    have hj1 : j = 0 := by
      have := (List.getElem?_eq_some_iff.1 hj).1
      simp at this; omega
    subst hj1
    have hv : v = .int .i64 (-1) := by
      have := (List.getElem?_eq_some_iff.1 hj).2
      simpa using this.symm
    subst hv
    exact hS.old_cell HC.out
  clear hS
  intro w3 hS
  have hx : ∀ i, i < min 1 N → (setAll (List.replicate N (Value.int .i64 0)) 0 ((List.replicate (min 1 N) (-1 : Int)).map (Value.int .i64)))[i]? = some (.int .i64 (-1)) := fun i hi => by
    rw [setAll_get _ _ _ _ (by simp; omega), if_pos (by simp; omega)]
    simp [hi]
  have hxl : (setAll (List.replicate N (Value.int .i64 0)) 0 ((List.replicate (min 1 N) (-1 : Int)).map (Value.int .i64))).length = N := by
    rw [setAll_length]; simp
  simp only [List.map_replicate] at hx hxl
  generalize setAll (List.replicate N (Value.int .i64 0)) 0 (List.replicate (min 1 N) (Value.int .i64 (-1))) = xs at hS hx hxl
  have HX := Lib.hid hx
  have HL := Lib.hid hxl
  clear hx hxl hc0
  go_wp2_with (first | go_skip | go_big_skip | go_big_guard)
  go_loopg [8] (N - min 1 N) (fun k i wr => ∃ (m : Nat) (xs : List Value), m ≤ N ∧ (0 < N → 0 < m) ∧ k = N - m ∧ i = .int .i64 m ∧ xs.length = N ∧ (∀ i, i < m → xs[i]? = some (Value.int .i64 (-1))) ∧ Holds w' [vec (some ⟨b2, 0, none⟩) N 3 1 xs, old w'] wr)
  case atStart => exact ⟨min 1 N, xs, by omega, by omega, rfl, rfl, HL.out, HX.out, hS⟩
  case round =>
    clear hS HX HL
    obtain ⟨m, xs, hm, hm0, rfl, rfl, hxl, hx, hS⟩ := hrel
    have HX := Lib.hid hx
    clear hx
    by_cases hlt : m < N
    · have hmp := hm0 (by omega)
      have hne : ¬ N = m := by omega
      have hcm : m ≤ xs.length := by omega
      have HL := Lib.hid hxl
      clear hxl hm0
      go_wp2_with (first | go_skip | go_big_skip | go_big_guard)
      have hsrc : ∀ j v, (xs.take (min m (N - m)))[j]? = some v → xs[j]? = some v := fun j v hj => by
        have hjl := (List.getElem?_eq_some_iff.1 hj).1
        simp only [List.length_take] at hjl
        rwa [List.getElem?_take, if_pos (by omega)] at hj
      have hone : ∀ v ∈ xs.take (min m (N - m)), v.oneCell' = true := by
        intro v hv
        obtain ⟨i, hi, rfl⟩ := List.mem_iff_getElem.1 hv
        simp only [List.length_take] at hi
        have := HX.out i (by omega)
        rw [List.getElem?_eq_getElem (by omega)] at this
        simp only [List.getElem_take]
        rw [Option.some.inj this]
        rfl
      have HSRC := Lib.hid hsrc
      have HONE := Lib.hid hone
      clear hsrc hone
      refine wp_region_sched (fun _ => True) [(0, true), (1, true), (2, true), (3, true), (4, true), (5, true), (6, true), (7, false), (8, true), (9, true)] (by kernel_rfl) (by kernel_rfl) ?_
      replace hS := hS.drew
      refine wpSched_row 0 7 (by simp) (by kernel_rfl) trivial ?_
      (try simp only [List.take_succ_cons, List.take_zero, List.drop_succ_cons, List.drop_zero])
      repeat (go_big_quiet_step (fail))
      refine wpQuiet_nil ?_
      refine wpSched_one (by simp) ?_
      (try simp only [List.take_succ_cons, List.take_zero, List.drop_succ_cons, List.drop_zero])
      refine wpList_cp hS (d := .tmp 41) rfl rfl rfl rfl rfl rfl (xs.take (min m (N - m))) (by have := HL.out; simp; omega) (fun j v hj => by rw [show (⟨b2, 0, none⟩ : Addr).add j = ⟨b2, j, none⟩ by unfold Addr.add; split <;> simp_all]; exact hS.cell b2 j (HSRC.out j v hj)) HONE.out (by have := HL.out; simp; omega) ?_
      clear hS
      intro w4 hS
      have hlen : (xs.take (min m (N - m))).length = min m (N - m) := by have := HL.out; simp; omega
      have hw : ∀ i, i < m + min m (N - m) → (setAll xs m (xs.take (min m (N - m))))[i]? = some (Value.int .i64 (-1)) := fun i hi => by
        have := HL.out
        rw [setAll_get _ _ _ _ (by rw [hlen]; omega), hlen]
        by_cases e : i < m
        · rw [if_neg (by omega)]; exact HX.out i e
        · rw [if_pos (by omega), List.getElem?_take, if_pos (by omega)]; exact HX.out _ (by omega)
      have hxl : (setAll xs m (xs.take (min m (N - m)))).length = N := by rw [setAll_length]; exact HL.out
      rw [hlen]
      generalize setAll xs m (xs.take (min m (N - m))) = ys at hS hw hxl
      have HY := Lib.hid hw
      have HYL := Lib.hid hxl
      clear hw hxl hlen HX HL
      refine wpList_nil (doQ_intro trivial ?_)
      go_frame
      refine wpSched_row 8 2 (by simp) (by kernel_rfl) trivial ?_
      (try simp only [List.take_succ_cons, List.take_zero, List.drop_succ_cons, List.drop_zero])
      repeat (go_big_quiet_step (fail))
      refine wpQuiet_nil ?_
      refine wpSched_nil ?_
      go_wp2_with (first | go_skip | go_big_skip | go_big_guard)
      go_roundg (N - (m + min m (N - m)))
      case rel => exact ⟨m + min m (N - m), ys, by omega, by omega, rfl, by go_num, HYL.out, HY.out, hS⟩
      case measure => omega
    · go_wp2_with (first | go_skip | go_big_skip | go_big_guard)
      go_ret
      refine ⟨b2, rfl, ?_⟩
      have e : xs = (List.replicate N (-1 : Int)).map (Value.int .i64) := by
        apply List.ext_getElem?
        intro i
        by_cases hi : i < N
        · rw [HX.out i (by omega)]; simp [hi]
        · rw [List.getElem?_eq_none (by omega), List.getElem?_eq_none (by simp; omega)]
      rw [← e]
      exact hS

end Go.Proofs.Ytecegbgebefheaa
