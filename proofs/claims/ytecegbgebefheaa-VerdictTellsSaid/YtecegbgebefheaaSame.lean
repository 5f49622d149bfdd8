/- The contract of same: are two rows the same. For all rows. -/
import Derived.Test.YtecegbgebefheaaRight
namespace Go.Proofs.Ytecegbgebefheaa
open Go.Sep Go.RowKit

theorem rd_ext {xs ys : List Int} (h : xs.length = ys.length) (hr : ∀ i, i < xs.length → rd xs i = rd ys i) : xs = ys := by
  apply List.ext_getElem h
  intro i h1 h2
  have := hr i h1
  rwa [rd_eq h1, rd_eq h2] at this

set_option maxHeartbeats 4000000 in
theorem same_any (aa ab : Option Addr) (ca cb : Nat) (xs ys : List Int) (w : World) (ha : RowAt w aa (xs.map (Value.int .i64))) (hb : RowAt w ab (ys.map (Value.int .i64))) (hm : xs.length ≤ maxLen) :
    Calls Try.prog 13 #[.slice aa xs.length ca, .slice ab ys.length cb] w fun e w' => e = .returned (.bool (decide (xs = ys))) ∧ Holds w [old w] w' := by
  unfold maxLen at hm
  have hS := Holds.start w
  by_cases hl : xs.length = ys.length
  case neg =>
    have hx : decide (xs = ys) = false := decide_eq_false fun h => hl (by rw [h])
    have hl' : ((xs.length : Int) != (ys.length : Int)) = true := by simp; omega
    rw [hx]
    have HX := Lib.hid hl
    clear hl hx HX
    go_enter Try.func13, Try.ntmps13
    go_wp2
    go_ret
    exact ⟨rfl, hS⟩
  have hl' : ((xs.length : Int) != (ys.length : Int)) = false := by simp; omega
  have HL := Lib.hid hl
  have HA := Lib.hid ha
  have HB := Lib.hid hb
  clear hl ha hb
  go_enter Try.func13, Try.ntmps13
  go_wp2
  go_loopg [5] xs.length (fun k i wr => ∃ j : Nat, j ≤ xs.length ∧ k = xs.length - j ∧ i = .int .i64 j ∧ Holds w [old w] wr ∧ ∀ i, i < j → rd xs i = rd ys i)
  case atStart => exact ⟨0, Nat.zero_le _, rfl, rfl, hS, fun i h => by omega⟩
  case round =>
    clear hS
    obtain ⟨j, hj, rfl, rfl, hS, hb⟩ := hrel
    have HE := Lib.hid hb
    clear hb
    by_cases hlt : j < xs.length
    · have hlt' : j < ys.length := by have := HL.out; omega
      obtain ⟨b1, o1, rfl, hc1⟩ := HA.out.at (by simpa using by omega)
      obtain ⟨b2, o2, rfl, hc2⟩ := HB.out.at (by simpa using by omega)
      have hx1 : w.cell? ⟨b1, o1 + j, none⟩ = some (.int .i64 (rd xs j)) := hc1 j _ (map_rd _ hlt)
      have hx2 : w.cell? ⟨b2, o2 + j, none⟩ = some (.int .i64 (rd ys j)) := hc2 j _ (map_rd _ hlt')
      clear hc1 hc2
      go_wp2
      refine wp_region_plain (by kernel_rfl) (by kernel_rfl) (by kernel_rfl) ?_
      replace hS := hS.drew
      go_wp2_with (first | go_skip | go_big_skip | go_big_guard | (refine wpList_ldo hS rfl rfl rfl (by with_reducible assumption) (by simp) ?_))
      refine headQ_intro ?_
      go_wp2
      · rename_i hne
        go_ret
        have hx : decide (xs = ys) = false := decide_eq_false fun h => by rw [h] at hne; simp at hne
        rw [hx]
        exact ⟨rfl, hS⟩
      · rename_i hne
        go_roundg (xs.length - (j + 1))
        case rel => exact ⟨j + 1, by omega, rfl, by go_num, hS, fun i hi => by
          by_cases e : i = j
          · subst e; simpa using hne
          · exact HE.out i (by omega)⟩
        case measure => omega
    · go_wp2
      go_ret
      have hx : decide (xs = ys) = true := decide_eq_true (rd_ext HL.out fun i hi => HE.out i (by omega))
      rw [hx]
      exact ⟨rfl, hS⟩

end Go.Proofs.Ytecegbgebefheaa
