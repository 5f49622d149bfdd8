/- The contract of the reference's Reaches: entry j says whether there is a way from the task to j. For facts that may be. -/
import Derived.Test.YtecegbgebefheaaSlice
import Derived.Test.YtecegbgebefheaaLaw
import Derived.Test.YtecegbgebefheaaReachM
import Derived.Deep.CutRange
set_option linter.unusedSimpArgs false
set_option linter.unusedVariables false
namespace Go.Proofs.Ytecegbgebefheaa
open Go.Sep Go.RowKit

def ReachPost (w : World) (n i : Nat) (E : List (List Int)) : Ending → World → Prop :=
  fun e w' => ∃ b Z, e = .returned (.slice (some ⟨b, 0, none⟩) n n) ∧ Holds w [vec (some ⟨b, 0, none⟩) n 4 1 (Z.map Value.bool), old w] w' ∧ Z.length = n ∧ ∀ j, bt Z j = true ↔ Way E i j

theorem one_any (zs : List Int) : ∀ u ∈ zs.map (Value.int .i64), u.oneCell' = true := fun u hu => by
  obtain ⟨r, _, rfl⟩ := List.mem_map.1 hu
  rfl

set_option maxRecDepth 100000 in
set_option maxHeartbeats 8000000 in
theorem reach_any (n i : Nat) (aE : Option Addr) (cE : Nat) (E : List Rw) (w : World) (hR : Rows w aE E) (hEl : E.length = n) (hi : i < n) (hn : n ≤ 64) (hI : Inside n (E.map (·.2.2))) (hs : ∀ e ∈ E.map (·.2.2), e.length ≤ 1000) :
    Calls Try.prog 20 #[.slice aE n cE, .int .i64 i] w (ReachPost w n i (E.map (·.2.2))) := by
  have hS := Holds.start w
  have HR := Lib.hid hR
  have HEL := Lib.hid hEl
  have HI := Lib.hid hI
  have HSH := Lib.hid hs
  obtain ⟨be, oe, hae, hce⟩ := hR.1.at (by rw [List.length_map]; omega)
  have hhdr : ∀ j e, E[j]? = some e → w.cell? ⟨be, oe + j, none⟩ = some (Rw.val e) := fun j e he => hce j _ (by simp [he])
  subst hae
  have HH := Lib.hid hhdr
  clear hR hEl hI hs hce hhdr
  obtain ⟨ei, hei⟩ : ∃ e, E[i]? = some e := ⟨E[i]'(by have := HEL.out; omega), by simp⟩
  have ce := HH.out i ei hei
  have hrow := HR.out.2 ei (List.mem_of_getElem? hei)
  have hgi : (E.map (·.2.2)).getD i [] = ei.2.2 := by simp [hei]
  have hlen : ei.2.2.length ≤ 1000 := HSH.out _ (List.mem_map.2 ⟨_, List.mem_of_getElem? hei, rfl⟩)
  obtain ⟨ra, rc, rz⟩ := ei
  simp only [Rw.val] at ce
  dsimp only at hrow hgi hlen
  have HROW := Lib.hid hrow
  have HGI := Lib.hid hgi
  clear hei hrow hgi
  go_enter Try.func20, Try.ntmps20
  go_wp2_with (first | go_skip | go_big_skip | go_big_guard | (refine wpList_ldo hS rfl rfl rfl (by with_reducible assumption) (by simp) ?_) | (at_make; refine wpList_make hS rfl rfl rfl rfl n rfl rfl rfl (bytes := 1) (size := 1) (z := .bool false) (by rfl) rfl rfl (by omega) (by unfold maxLen; omega) ?_; clear hS; intro bz w3 hS; rw [show List.replicate n (Value.bool false) = (List.replicate n false).map Value.bool from (List.map_replicate).symm] at hS) | (refine wpList_lit hS (n := 0) rfl rfl (vs := []) (e := 3) (size := 1) (by go_simp) rfl (by unfold maxLen; omega) ?_; clear hS; intro bL w2 hS) | (refine wpList_appv hS (s := .tmp 11) rfl rfl rfl rfl (bytes := 8) (size := 1) (z := .int .i64 0) (by rfl) rfl (by omega) rfl rfl (m := rz.length) (news := rz.map (Value.int .i64)) (by simp) (RowAt.keep HROW.out hS) (one_any rz) rfl (by unfold maxLen; omega) (by omega) ?_; clear hS; intro ao cap w3 hS; simp only [Nat.zero_add, List.nil_append] at hS ⊢))
  have hSO := hS.toO
  clear hS
  have hS := hSO
  clear hSO
  have hseek := Seek.start (i := i) HI.out HSH.out
  rw [HGI.out] at hseek
  have HSK := Lib.hid hseek
  clear hseek
  go_loopg [6] (left n (List.replicate n false) rz) (fun kk s wr => ∃ (T : List Int) (Z : List Bool) (ao : Option Addr) (cap : Nat), kk = left n Z T ∧ s = .slice ao T.length cap ∧ Seek (E.map (·.2.2)) n i Z T ∧
    Holds w [vecO ao cap 3 1 (T.map (Value.int .i64)), vec (some ⟨bz, 0, none⟩) n 4 1 (Z.map Value.bool), old w] wr)
  case atStart => exact ⟨rz, List.replicate n false, ao, cap, rfl, rfl, HSK.out, hS⟩
  case round =>
    clear hS HSK HROW HGI ce
    obtain ⟨T, Z, ao, cap, rfl, rfl, hsk, hS⟩ := hrel
    have HSK := Lib.hid hsk
    clear hsk
    cases T with
    | nil =>
      go_wp2_with (first | go_skip | go_big_skip | go_big_guard)
      go_ret
      exact ⟨bz, Z, rfl, hS.pick [1, 1], HSK.out.len, HSK.out.done⟩
    | cons x T =>
      have hcap := vecO_cap hS
      rw [List.length_map, List.length_cons, Nat.mul_one] at hcap
      obtain ⟨hcap1, hcap2⟩ := hcap
      unfold maxLen at hcap2
      have hins := HSK.out.ins x (by simp)
      have hshort := HSK.out.short
      have hcl := cnt_le Z
      have hzl := HSK.out.len
      obtain ⟨b, off, rfl, hcc⟩ := (vecO_row hS).at (by simp)
      have cx : wr.cell? ⟨b, off, none⟩ = some (.int .i64 x) := by simpa using hcc 0 (.int .i64 x) (by simp)
      clear hcc
      obtain ⟨hx1, hx2⟩ := hins
      have hTl : T.length ≤ 70000 := by simp only [List.length_cons] at hshort; omega
      clear hshort hcl
      obtain ⟨y, hy⟩ : ∃ y : Nat, x = y := ⟨x.toNat, by omega⟩
      subst hy
      have hyn : y < n := by omega
      have hyZ : y < Z.length := by omega
      clear hzl hx1 hx2
      go_upto_region 5 with (first | go_skip | go_big_skip | go_big_guard | (refine wpList_ldw rfl rfl rfl (by with_reducible assumption) (by simp) ?_))
      go_cut [6] from 17 to 38 (fun s wx => ∃ ao1 cap1, s = .slice ao1 T.length cap1 ∧ Holds w [vecO ao1 cap1 3 1 (T.map (Value.int .i64)), vec (some ⟨bz, 0, none⟩) n 4 1 (Z.map Value.bool), old w] wx)
      case first =>
        by_cases h1 : cap = 1
        · subst h1
          obtain rfl : T = [] := List.eq_nil_of_length_eq_zero (by omega)
          go_wp2_with (first | go_skip | go_big_skip | go_big_guard)
          go_meet
          case rel => exact ⟨_, _, rfl, vecO_last hS⟩
        · obtain ⟨c, rfl⟩ : ∃ c, cap = c + 1 := ⟨cap - 1, by omega⟩
          have hc0 : 0 < c := by omega
          have hc1 : ¬ c = 0 := by omega
          go_wp2_with (first | go_skip | go_big_skip | go_big_guard)
          go_meet
          case rel => exact ⟨_, _, rfl, vecO_tail hS⟩
      case rest =>
        clear hS cx hcap1 hcap2
        obtain ⟨ao1, cap1, rfl, hS⟩ := hcut
        obtain ⟨ey, hey⟩ : ∃ e, E[y]? = some e := ⟨E[y]'(by have := HEL.out; omega), by simp⟩
        have ce := HH.out y ey hey
        have hrow := HR.out.2 ey (List.mem_of_getElem? hey)
        have hgy : (E.map (·.2.2)).getD y [] = ey.2.2 := by simp [hey]
        have hlen2 : ey.2.2.length ≤ 1000 := HSH.out _ (List.mem_map.2 ⟨_, List.mem_of_getElem? hey, rfl⟩)
        obtain ⟨sa, sc, sz⟩ := ey
        simp only [Rw.val] at ce
        dsimp only at hrow hgy hlen2
        have HROW := Lib.hid hrow
        have HGY := Lib.hid hgy
        clear hey hrow hgy
        have hvy : (Z.map Value.bool)[y]? = some (.bool (bt Z y)) := by rw [List.getElem?_map, bt_get hyZ]; rfl
        by_cases hb : bt Z y = true
        · rw [hb] at hvy
          have HB := Lib.hid hb
          clear hb
          go_wp2_with (first | go_skip | go_big_skip | go_big_guard | (refine wpList_ld hS rfl rfl rfl (by simp) hvy ?_))
          go_roundg (left n Z T)
          case rel => exact ⟨T, Z, ao1, cap1, rfl, rfl, HSK.out.skip (by simpa using HB.out), hS⟩
          case measure => simp [left]
        · simp only [Bool.not_eq_true] at hb
          rw [hb] at hvy
          have HB := Lib.hid hb
          clear hb
          go_wp2_with (first | go_skip | go_big_skip | go_big_guard | (refine wpList_ldo hS rfl rfl rfl (by with_reducible assumption) (by simp) ?_) | (refine wpList_ld hS rfl rfl rfl (by simp) hvy ?_) | (refine wpList_stb hS rfl rfl rfl rfl (by simp) (by simpa using hyZ) ?_; clear hS; intro w4 hS) | (refine wpList_appO hS (s := .tmp 33) rfl rfl rfl rfl (bytes := 8) (size := 1) (z := .int .i64 0) (by rfl) rfl (by omega) (by simp) rfl (m := sz.length) (news := sz.map (Value.int .i64)) (by simp) (RowAt.keep HROW.out hS) (one_any sz) (List.map_append (f := Value.int .i64)).symm (by unfold maxLen; omega) (by omega) ?_; clear hS; intro ao2 cap2 w5 hS))
          go_roundg (left n (Z.set y true) (T ++ sz))
          case rel =>
            have h1 := HSK.out.mark HI.out HSH.out (by simpa using HB.out)
            rw [Int.toNat_natCast, HGY.out] at h1
            exact ⟨T ++ sz, Z.set y true, ao2, cap2, rfl, by rw [List.length_append], h1, hS⟩
          case measure =>
            have h1 := HSK.out.down HSH.out (by simpa using HB.out)
            rwa [Int.toNat_natCast, HGY.out] at h1

end Go.Proofs.Ytecegbgebefheaa
