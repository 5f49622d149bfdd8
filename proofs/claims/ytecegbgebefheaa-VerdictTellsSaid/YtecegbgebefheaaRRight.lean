/- The contract of the reference's Right: it says whether the facts may be. For all arguments of modest size. -/
import Derived.Test.YtecegbgebefheaaLaw
import Derived.Deep.CutRange
set_option linter.unusedSimpArgs false
set_option linter.unusedVariables false
namespace Go.Proofs.Ytecegbgebefheaa
open Go.Sep Go.RowKit

set_option maxRecDepth 100000 in
set_option maxHeartbeats 8000000 in
theorem rright_any (N : Int) (aE aO : Option Addr) (cE cO : Nat) (E : List Rw) (O : List Int) (w : World) (hE : Rows w aE E) (hO : RowAt w aO (O.map (Value.int .i64))) (hs : ∀ e ∈ E, e.2.2.length ≤ 1000) (hEl : E.length ≤ 1000) (hOl : O.length ≤ 1000) :
    Calls Try.prog 19 #[.int .i64 N, .slice aE E.length cE, .slice aO O.length cO] w fun e w' => e = .returned (.bool (rightB N (E.map (·.2.2)) O)) ∧ w = w' := by
  have hS := Holds.start w
  by_cases h0 : N < 0
  · rw [rightB_no (by omega)]
    go_enter Try.func19, Try.ntmps19
    go_wp2_with (first | go_skip | go_big_skip | go_big_guard)
    go_ret
    exact ⟨rfl, rfl⟩
  by_cases h1 : 64 < N
  · rw [rightB_no (by omega)]
    go_enter Try.func19, Try.ntmps19
    go_wp2_with (first | go_skip | go_big_skip | go_big_guard)
    go_ret
    exact ⟨rfl, rfl⟩
  by_cases h2 : (E.length : Int) = N
  case neg =>
    rw [rightB_no (by simp; omega)]
    have h2' : ((E.length : Int) != N) = true := by simpa using h2
    clear h2
    go_enter Try.func19, Try.ntmps19
    go_wp2_with (first | go_skip | go_big_skip | go_big_guard)
    go_ret
    exact ⟨rfl, rfl⟩
  by_cases h3 : (O.length : Int) = N
  case neg =>
    rw [rightB_no (by simp; omega)]
    have h2' : ((E.length : Int) != N) = false := by simpa using h2
    have h3' : ((O.length : Int) != N) = true := by simpa using h3
    clear h2 h3
    go_enter Try.func19, Try.ntmps19
    go_wp2_with (first | go_skip | go_big_skip | go_big_guard)
    go_ret
    exact ⟨rfl, rfl⟩
  subst h2
  have hr : rightB E.length (E.map (·.2.2)) O = (O.all ownB && !((E.map (·.2.2)).any fun e => e.any (strangeB E.length))) := by
    simp only [rightB]
    rw [decide_eq_true (by simp; omega), Bool.true_and]
  rw [hr]
  clear hr
  generalize hB : (O.all ownB && !((E.map (·.2.2)).any fun e => e.any (strangeB E.length))) = B
  have HBB := Lib.hid hB
  clear hB
  have hol : O.length = E.length := by omega
  have HO := Lib.hid hol
  have h2' : ((E.length : Int) != (E.length : Int)) = false := by simp
  have h3' : ((O.length : Int) != (E.length : Int)) = false := by simpa using h3
  have HER := Lib.hid hE
  have HOR := Lib.hid hO
  have HSH := Lib.hid hs
  clear h3 hol h0 hE hO hs
  go_enter Try.func19, Try.ntmps19
  go_wp2_with (first | go_skip | go_big_skip | go_big_guard)
  go_loopg [7] E.length (fun k i wr => ∃ j : Nat, j ≤ E.length ∧ k = E.length - j ∧ i = .int .i64 j ∧ (∀ i, i < j → ownB (rd O i) = true ∧ ∀ e, E[i]? = some e → e.2.2.any (strangeB E.length) = false) ∧ w = wr)
  case atStart => exact ⟨0, Nat.zero_le _, rfl, rfl, fun i h => by omega, rfl⟩
  case round =>
    obtain ⟨j, hj, rfl, rfl, hb, rfl⟩ := hrel
    have HB := Lib.hid hb
    clear hb
    by_cases hlt : j < E.length
    · obtain ⟨bo, oo, hao, hco⟩ := HOR.out.at (by rw [List.length_map]; have := HO.out; omega)
      have hjO : j < O.length := by have := HO.out; omega
      have co : w.cell? ⟨bo, oo + j, none⟩ = some (.int .i64 (rd O j)) := hco j _ (map_rd _ hjO)
      obtain ⟨be, oe, hae, hce⟩ := HER.out.1.at (by rw [List.length_map]; omega)
      obtain ⟨e, he⟩ : ∃ e, E[j]? = some e := ⟨E[j], by simp⟩
      have hem := List.mem_of_getElem? he
      have hrow := HER.out.2 e hem
      have hlen := HSH.out e hem
      have ce : w.cell? ⟨be, oe + j, none⟩ = some (Rw.val e) := hce j _ (by simp [he])
      subst hao hae
      clear hco hce hem
      obtain ⟨ra, rc, rz⟩ := e
      simp only [Rw.val] at ce
      dsimp only at hrow hlen
      have HEJ := Lib.hid he
      have HROW := Lib.hid hrow
      clear he hrow
      by_cases hown : ownB (rd O j) = true
      case neg =>
        have hn : rd O j ≠ 0 ∧ rd O j ≠ 5 ∧ rd O j ≠ 6 := by
          simp only [ownB, decide_eq_true_eq, not_or] at hown
          exact hown
        have hown' : ownB (rd O j) = false := by simpa using hown
        have b0 : (rd O j != 0) = true := by simpa using hn.1
        have b5 : (rd O j != 5) = true := by simpa using hn.2.1
        have b6 : (rd O j != 6) = true := by simpa using hn.2.2
        have HN := Lib.hid hown'
        clear hown hn hown'
        go_wp2_with (first | go_skip | go_big_skip | go_big_guard | (refine wpList_ldo hS rfl rfl rfl (by with_reducible assumption) (by simp) ?_))
        go_ret
        refine ⟨?_, rfl⟩
        have hx : O.all ownB = false := by
          rw [List.all_eq_false]
          exact ⟨O[j], by simp, by rw [← rd_eq hjO, HN.out]; simp⟩
        rw [← HBB.out, hx]
        rfl
      case pos =>
        have hn : rd O j = 0 ∨ rd O j = 5 ∨ rd O j = 6 := by simpa [ownB] using hown
        have HN := Lib.hid hown
        clear hown
        go_upto_region 6 with (first | go_skip | go_big_skip | go_big_guard | (refine wpList_ldo hS rfl rfl rfl (by with_reducible assumption) (by simp) ?_))
        go_cut [50] from 27 to 78 (fun s wx => s = .bool false ∧ w = wx)
        case first =>
          rcases hn with hn | hn | hn
          all_goals
            rw [hn] at co
            clear hn
            go_wp2_with (first | go_skip | go_big_skip | go_big_guard | (refine wpList_ldo hS rfl rfl rfl (by with_reducible assumption) (by simp) ?_))
            go_meet
            case rel => exact ⟨rfl, rfl⟩
        case rest =>
          obtain ⟨rfl, rfl⟩ := hcut
          clear hn
          go_wp2_with (first | go_skip | go_big_skip | go_big_guard | (refine wpList_ldo hS rfl rfl rfl (by with_reducible assumption) (by simp) ?_))
          go_loopg [8] rz.length (fun k i wr => ∃ m : Nat, m ≤ rz.length ∧ k = rz.length - m ∧ i = .int .i64 m ∧ (∀ i, i < m → strangeB E.length (rd rz i) = false) ∧ w = wr)
          case atStart => exact ⟨0, Nat.zero_le _, rfl, rfl, fun i h => by omega, rfl⟩
          case round =>
            obtain ⟨m, hm, rfl, rfl, hb, rfl⟩ := hrel
            have HB2 := Lib.hid hb
            clear hb
            by_cases hmt : m < rz.length
            · obtain ⟨bx, ox, rfl, hcx⟩ := HROW.out.at (by rw [List.length_map]; omega)
              have cx : w.cell? ⟨bx, ox + m, none⟩ = some (.int .i64 (rd rz m)) := hcx m _ (map_rd _ hmt)
              clear hcx
              by_cases hst : strangeB E.length (rd rz m) = true
              · have hst2 : rd rz m < 0 ∨ (E.length : Int) ≤ rd rz m := by simpa [strangeB] using hst
                have HST := Lib.hid hst
                clear hst
                have fin : ∀ b : Bool, b = false → (Ending.returned (.bool false) = Ending.returned (.bool b)) := fun b h => by rw [h]
                have hx : (O.all ownB && !((E.map (·.2.2)).any fun e => e.any (strangeB E.length))) = false := by
                  have : ((E.map (·.2.2)).any fun e => e.any (strangeB E.length)) = true := by
                    rw [List.any_eq_true]
                    exact ⟨rz, List.mem_map_of_mem (List.mem_of_getElem? HEJ.out), by rw [List.any_eq_true]; exact ⟨rz[m], List.getElem_mem hmt, by rw [← rd_eq hmt]; exact HST.out⟩⟩
                  rw [this]
                  simp
                have HX := Lib.hid (HBB.out.symm.trans hx)
                clear hx
                rcases hst2 with hl | hl
                · go_wp2_with (first | go_skip | go_big_skip | go_big_guard | (refine wpList_ldo hS rfl rfl rfl (by with_reducible assumption) (by simp) ?_))
                  go_ret
                  exact ⟨fin _ HX.out, rfl⟩
                · have hl0 : ¬ rd rz m < 0 := by omega
                  go_wp2_with (first | go_skip | go_big_skip | go_big_guard | (refine wpList_ldo hS rfl rfl rfl (by with_reducible assumption) (by simp) ?_))
                  go_ret
                  exact ⟨fin _ HX.out, rfl⟩
              · have hst1 : strangeB E.length (rd rz m) = false := by simpa using hst
                have hst2 : 0 ≤ rd rz m ∧ rd rz m < (E.length : Int) := by simp [strangeB] at hst1; omega
                obtain ⟨hl1, hl2⟩ := hst2
                have HST := Lib.hid hst1
                clear hst hst1
                go_wp2_with (first | go_skip | go_big_skip | go_big_guard | (refine wpList_ldo hS rfl rfl rfl (by with_reducible assumption) (by simp) ?_))
                go_roundg (rz.length - (m + 1))
                case rel => exact ⟨m + 1, by omega, rfl, by go_num, fun i hi => by
                  by_cases e : i = m
                  · subst e; exact HST.out
                  · exact HB2.out i (by omega), rfl⟩
                case measure => omega
            · go_wp2_with (first | go_skip | go_big_skip | go_big_guard | (refine wpList_ldo hS rfl rfl rfl (by with_reducible assumption) (by simp) ?_))
              go_roundg (E.length - (j + 1))
              case rel => exact ⟨j + 1, by omega, rfl, by go_num, fun i hi => by
                by_cases e : i = j
                · subst e
                  refine ⟨HN.out, fun e he => ?_⟩
                  rw [HEJ.out] at he
                  cases he
                  rw [List.any_eq_false]
                  intro x hx
                  obtain ⟨q, hq, rfl⟩ := List.mem_iff_getElem.1 hx
                  have hq' : q < rz.length := hq
                  have := HB2.out q (by omega)
                  rw [rd_eq hq] at this
                  simp [this]
                · exact HB.out i (by omega), rfl⟩
              case measure => omega
    · go_wp2_with (first | go_skip | go_big_skip | go_big_guard | (refine wpList_ldo hS rfl rfl rfl (by with_reducible assumption) (by simp) ?_))
      go_ret
      refine ⟨?_, rfl⟩
      have hx : O.all ownB = true := by
        rw [List.all_eq_true]
        intro x hx
        obtain ⟨i, hi, rfl⟩ := List.mem_iff_getElem.1 hx
        have := (HB.out i (by have := HO.out; omega)).1
        rwa [rd_eq hi] at this
      have hy : ((E.map (·.2.2)).any fun e => e.any (strangeB E.length)) = false := by
        rw [List.any_eq_false]
        intro x hx
        obtain ⟨e, he, rfl⟩ := List.mem_map.1 hx
        obtain ⟨i, hi, rfl⟩ := List.mem_iff_getElem.1 he
        exact by simp [(HB.out i (by omega)).2 E[i] (by simp)]
      rw [← HBB.out, hx, hy]
      rfl

end Go.Proofs.Ytecegbgebefheaa
