/- The contract of few: the facts cut to seventy rows of twenty, all in memory of its own. -/
import Derived.Test.YtecegbgebefheaaFewM
import Derived.Test.YtecegbgebefheaaSlice
import Derived.Test.YtecegbgebefheaaLaw
set_option linter.unusedSimpArgs false
set_option linter.unusedVariables false
namespace Go.Proofs.Ytecegbgebefheaa
open Go.Sep Go.RowKit

theorem one_rows (E : List Rw) (k : Nat) : ∀ u ∈ (E.map Rw.val).take k, u.oneCell' = true := fun u hu => by
  obtain ⟨r, _, rfl⟩ := List.mem_map.1 (List.mem_of_mem_take hu)
  rfl
theorem one_ints (zs : List Int) (k : Nat) : ∀ u ∈ (zs.map (Value.int .i64)).take k, u.oneCell' = true := fun u hu => by
  obtain ⟨r, _, rfl⟩ := List.mem_map.1 (List.mem_of_mem_take hu)
  rfl

def FewPost (w : World) (N : Int) (E : List (List Int)) (O : List Int) : Ending → World → Prop :=
  fun e w' => ∃ aE cE R aO cO, e = .returned (.agg #[.int .i64 N, .slice aE E.length cE, .slice aO O.length cO]) ∧ R.map (·.2.2) = E ∧
    Holds w [vec aE cE 23 1 (R.map Rw.val), rowsP R, vec aO cO 3 1 (O.map (Value.int .i64)), old w] w'

set_option maxRecDepth 100000 in
set_option maxHeartbeats 8000000 in
theorem few_any (N : Int) (aE aO : Option Addr) (cE cO : Nat) (E : List Rw) (O : List Int) (w : World) (hE : Rows w aE E) (hO : RowAt w aO (O.map (Value.int .i64)))
    (hc1 : E.length ≤ cE) (hc2 : ∀ e ∈ E, e.2.2.length ≤ e.2.1 ∧ e.2.1 ≤ maxLen) (hc3 : O.length ≤ cO) (hm1 : cE ≤ maxLen) (hm3 : cO ≤ maxLen) :
    Calls Try.prog 10 #[.agg #[.int .i64 N, .slice aE E.length cE, .slice aO O.length cO]] w (FewPost w N (fewE (E.map (·.2.2))) (fewO O)) := by
  unfold maxLen at hm1 hm3 hc2
  have hS := Holds.start w
  have hsE := RowAt.take hE.1 70
  have hsO := RowAt.take hO 70
  have HSE := Lib.hid hsE
  have HSO := Lib.hid hsO
  have HE := Lib.hid hE.2
  have HC2 := Lib.hid hc2
  clear hsE hsO hE hO hc2
  obtain ⟨n, hn⟩ : ∃ n, n = min E.length 70 := ⟨_, rfl⟩
  obtain ⟨l, hl⟩ : ∃ l, l = min O.length 70 := ⟨_, rfl⟩
  have hn70 : n ≤ 70 := by omega
  have hl70 : l ≤ 70 := by omega
  have HN := Lib.hid hn
  have HL := Lib.hid hl
  clear hn hl
  go_enter Try.func10, Try.ntmps10
  go_upto_region 1 with (first | go_skip | go_big_skip | go_big_guard | (refine wpList_boxa hS rfl rfl rfl ?_; clear hS; intro b1 w1 hS) | (refine wpList_alloc hS (t := 25) rfl rfl (by simp; rfl) (vs := [.int .i64 0, .slice none 0 0, .slice none 0 0]) rfl ?_; clear hS; intro b2 w1 hS))
  go_frame
  go_cut [] from 4 (fun wx => ∃ ao cap, Holds w [vec ao cap 23 1 ((E.map Rw.val).take 70), blk b1 25 [.int .i64 N, .slice ao n cap, .slice aO O.length cO], blk b2 25 [.int .i64 0, .slice none 0 0, .slice none 0 0], old w] wx)
  case first =>
    rcases List.eq_nil_or_concat E with hnil | hcons
    · subst hnil
      obtain rfl : n = 0 := by have := HN.out; simpa using this
      cases aE
      all_goals
        go_wp2_with (first | go_skip | go_big_skip | go_big_guard | (refine wpList_ldl hS rfl rfl rfl (by simp) ?_) | (refine wpList_lit hS (n := 0) rfl rfl (vs := []) (e := 23) (size := 1) (by go_simp) rfl (by unfold maxLen; omega) ?_; clear hS; intro bL w2 hS) | (refine wpList_appv hS (s := .tmp 4) rfl rfl rfl rfl (bytes := 24) (size := 1) (z := .slice none 0 0) (by rfl) rfl (by omega) rfl rfl (m := 0) (news := []) rfl (.inl rfl) (by simp) rfl (by unfold maxLen; omega) (by omega) ?_; clear hS; intro ao cap w3 hS; simp only [Nat.zero_add]) | (refine wpList_sts hS rfl rfl rfl rfl (by simp) (by simp) ?_; clear hS; intro w1 hS))
        go_meet
        case rel => exact ⟨ao, cap, hS.pick [0, 1, 0, 0]⟩
    · have hpos : 0 < E.length := by obtain ⟨l', x, rfl⟩ := hcons; simp
      clear hcons
      obtain ⟨be, oe, rfl, _⟩ := HSE.out.at (by simp; omega)
      by_cases hle : E.length ≤ 70
      · obtain rfl : n = E.length := by have := HN.out; omega
        go_wp2_with (first | go_skip | go_big_skip | go_big_guard | (refine wpList_ldl hS rfl rfl rfl (by simp) ?_) | (refine wpList_lit hS (n := 0) rfl rfl (vs := []) (e := 23) (size := 1) (by go_simp) rfl (by unfold maxLen; omega) ?_; clear hS; intro bL w2 hS) | (refine wpList_appv hS (s := .tmp 4) rfl rfl rfl rfl (bytes := 24) (size := 1) (z := .slice none 0 0) (by rfl) rfl (by omega) rfl rfl (m := E.length) (news := (E.map Rw.val).take 70) (by simp; omega) (RowAt.keep HSE.out hS) (one_rows E 70) rfl (by unfold maxLen; omega) (by omega) ?_; clear hS; intro ao cap w3 hS; simp only [Nat.zero_add, List.nil_append] at hS ⊢) | (refine wpList_sts hS rfl rfl rfl rfl (by simp) (by simp) ?_; clear hS; intro w1 hS))
        go_meet
        case rel => exact ⟨ao, cap, hS.pick [0, 1, 0, 0]⟩
      · obtain rfl : n = 70 := by have := HN.out; omega
        go_wp2_with (first | go_skip | go_big_skip | go_big_guard | (refine wpList_ldl hS rfl rfl rfl (by simp) ?_) | (refine wpList_lit hS (n := 0) rfl rfl (vs := []) (e := 23) (size := 1) (by go_simp) rfl (by unfold maxLen; omega) ?_; clear hS; intro bL w2 hS) | (refine wpList_appv hS (s := .tmp 4) rfl rfl rfl rfl (bytes := 24) (size := 1) (z := .slice none 0 0) (by rfl) rfl (by omega) rfl rfl (m := 70) (news := (E.map Rw.val).take 70) (by simp; omega) (RowAt.keep HSE.out hS) (one_rows E 70) rfl (by unfold maxLen; omega) (by omega) ?_; clear hS; intro ao cap w3 hS; simp only [Nat.zero_add, List.nil_append] at hS ⊢) | (refine wpList_sts hS rfl rfl rfl rfl (by simp) (by simp) ?_; clear hS; intro w1 hS))
        go_meet
        case rel => exact ⟨ao, cap, hS.pick [0, 1, 0, 0]⟩
  case rest =>
    clear hS
    obtain ⟨ao, cap, hS⟩ := hcut
    rw [← List.map_take] at hS
    have hhd := Hdr.start E n HN.out
    have hS1 : Holds w [vec ao cap 23 1 ((E.take 70).map Rw.val), rowsP (List.replicate n (none, 0, [])), blk b1 25 [.int .i64 N, .slice ao n cap, .slice aO O.length cO], blk b2 25 [.int .i64 0, .slice none 0 0, .slice none 0 0], old w] wc := (rows_zero hS n).pick [1, 0, 0, 0, 0]
    clear hS
    have hS := hS1
    clear hS1
    generalize (E.take 70).map Rw.val = H0 at hS hhd
    generalize List.replicate n ((none, 0, []) : Rw) = R0 at hS hhd
    have HHD := Lib.hid hhd
    clear hhd
    go_wp2_with (first | go_skip | go_big_skip | go_big_guard)
    go_loopg [3] n (fun kk p wr => ∃ (j : Nat) (R : List Rw) (H : List Value), j ≤ n ∧ kk = n - j ∧ p = .int .i64 j ∧ Hdr E R n j H ∧ Holds w [vec ao cap 23 1 H, rowsP R, blk b1 25 [.int .i64 N, .slice ao n cap, .slice aO O.length cO], blk b2 25 [.int .i64 0, .slice none 0 0, .slice none 0 0], old w] wr)
    case atStart => exact ⟨0, R0, H0, Nat.zero_le _, rfl, rfl, HHD.out, hS⟩
    case round =>
      clear hS HHD
      obtain ⟨j, R, H, hj, rfl, rfl, hhd, hS⟩ := hrel
      have HHD := Lib.hid hhd
      clear hhd
      by_cases hjt : j < n
      · have hjH : j < H.length := by have := HHD.out.len; omega
        have hjR : j < R.length := by have := HHD.out.rlen; omega
        obtain ⟨bh, rfl⟩ := hS.vec_some ao (by omega)
        obtain ⟨e, he⟩ : ∃ e, E[j]? = some e := ⟨E[j]'(by have := HN.out; omega), by simp⟩
        have hem := List.mem_of_getElem? he
        have hrow := RowAt.take (HE.out e hem) 20
        obtain ⟨hlc, hcm⟩ := HC2.out e hem
        have hrv : H[j]? = some (Rw.val e) := by rw [HHD.out.yet j (Nat.le_refl _) hjt]; simp [he]
        have HEJ := Lib.hid he
        clear he hem
        obtain ⟨ra, rc, rz⟩ := e
        simp only [Rw.val] at hrv
        dsimp only at hrow hlc hcm
        have hS1 := (rows_take (hS.pick [1, 0, 0, 0, 0]) j hjR).weak
        clear hS
        have hS : Holds w [rowsP (R.eraseIdx j), vec (some ⟨bh, 0, none⟩) cap 23 1 H, blk b1 25 [.int .i64 N, .slice (some ⟨bh, 0, none⟩) n cap, .slice aO O.length cO], blk b2 25 [.int .i64 0, .slice none 0 0, .slice none 0 0], old w] wr := hS1
        clear hS1
        have HSR := Lib.hid hrow
        clear hrow
        rcases List.eq_nil_or_concat rz with hnil | hcons
        · subst hnil
          cases ra
          all_goals
            go_wp2_with (first | go_skip | go_big_skip | go_big_guard | (refine wpList_ldl hS rfl rfl rfl (by simp) ?_))
            refine wp_region_tree (Holds w [vec (some ⟨bh, 0, none⟩) cap 23 1 H, blk b1 25 [.int .i64 N, .slice (some ⟨bh, 0, none⟩) n cap, .slice aO O.length cO], old w]) 18 (.takes (List.range' 0 3) (.takes (List.range' 4 13) (.one 3 (.one 17 .done)))) (by kernel_rfl) (by kernel_rfl) ?_
            replace hS := hS.drew
            refine wpSch_row 0 3 (by simp) (by kernel_rfl) (hS.pick [1, 1, 2]) ?_
            (try simp only [List.take_succ_cons, List.take_zero, List.drop_succ_cons, List.drop_zero])
            repeat (first | (refine wpQuiet_ldl rfl rfl rfl (fun _ => by simp) ?_; go_frame) | (refine wpQuiet_ld rfl rfl rfl (fun _ => by simp) hrv ?_; go_frame) | (refine wpQuiet_weak (by kernel_rfl) ?_; go_big_quiet_step (fail); refine wpQuiet_nil ?_))
            refine wpQuiet_nil ?_
            refine wpSch_row 4 13 (by simp) (by kernel_rfl) (hS.pick [1, 1, 2]) ?_
            (try simp only [List.take_succ_cons, List.take_zero, List.drop_succ_cons, List.drop_zero])
            repeat (first | (refine wpQuiet_ldl rfl rfl rfl (fun _ => by simp) ?_; go_frame) | (refine wpQuiet_ld rfl rfl rfl (fun _ => by simp) hrv ?_; go_frame) | (refine wpQuiet_weak (by kernel_rfl) ?_; go_big_quiet_step (fail); refine wpQuiet_nil ?_))
            refine wpQuiet_nil ?_
            refine wpOp_one (by simp) ?_
            (try simp only [List.take_succ_cons, List.take_zero, List.drop_succ_cons, List.drop_zero])
            (refine wpList_lit hS (n := 0) rfl rfl (vs := []) (e := 3) (size := 1) (by go_simp) rfl (by unfold maxLen; omega) ?_; clear hS; intro bL w2 hS)
            refine wpList_nil (stepQ_intro ⟨hS.pick [2, 2, 3], ?_⟩)
            go_frame
            refine wpOp_one (by simp) ?_
            (try simp only [List.take_succ_cons, List.take_zero, List.drop_succ_cons, List.drop_zero])
            (refine wpList_appv hS (s := .tmp 24) rfl rfl rfl rfl (bytes := 8) (size := 1) (z := .int .i64 0) (by rfl) rfl (by omega) rfl rfl (m := 0) (news := []) rfl (.inl rfl) (by simp) rfl (by unfold maxLen; omega) (by omega) ?_; clear hS; intro ao' cap' w3 hS; simp only [Nat.zero_add])
            refine wpList_nil (stepQ_intro ⟨hS.pick [2, 2, 3], ?_⟩)
            go_frame
            refine wpSch_done ?_
            (try simp only [List.take_succ_cons, List.take_zero, List.drop_succ_cons, List.drop_zero])
            go_wp2_with (first | go_skip | go_big_skip | go_big_guard | (refine wpList_sts hS rfl rfl rfl rfl (by simp) (by simpa using hjH) ?_; clear hS; intro w1 hS))
            refine noPanic_intro ?_
            go_wp2_with (first | go_skip | go_big_skip | go_big_guard)
            go_roundg (n - (j + 1))
            case rel =>
              have hlen : (([] : List Int).take 20).length = 0 := rfl 
              have hnx := HHD.out.next hjt (r := (ao', cap', ([] : List Int).take 20)) HEJ.out rfl
              rw [show Rw.val (ao', cap', ([] : List Int).take 20) = .slice ao' 0 cap' by simp only [Rw.val, hlen]] at hnx
              refine ⟨j + 1, R.set j (ao', cap', ([] : List Int).take 20), _, by omega, rfl, by go_num, hnx, ?_⟩
              exact (rows_put (r := (ao', cap', ([] : List Int).take 20)) (E := R) (k := j) hS hjR).pick [1, 0, 0, 0, 0]
            case measure => omega
        · have hpos : 0 < rz.length := by obtain ⟨l', x, rfl⟩ := hcons; simp
          clear hcons
          obtain ⟨be, oe, rfl, hccx⟩ := HSR.out.at (by simp; omega)
          clear hccx
          by_cases hle : rz.length ≤ 20
          · go_wp2_with (first | go_skip | go_big_skip | go_big_guard | (refine wpList_ldl hS rfl rfl rfl (by simp) ?_))
            refine wp_region_tree (Holds w [vec (some ⟨bh, 0, none⟩) cap 23 1 H, blk b1 25 [.int .i64 N, .slice (some ⟨bh, 0, none⟩) n cap, .slice aO O.length cO], old w]) 18 (.takes (List.range' 0 3) (.takes (List.range' 4 13) (.one 3 (.one 17 .done)))) (by kernel_rfl) (by kernel_rfl) ?_
            replace hS := hS.drew
            refine wpSch_row 0 3 (by simp) (by kernel_rfl) (hS.pick [1, 1, 2]) ?_
            (try simp only [List.take_succ_cons, List.take_zero, List.drop_succ_cons, List.drop_zero])
            repeat (first | (refine wpQuiet_ldl rfl rfl rfl (fun _ => by simp) ?_; go_frame) | (refine wpQuiet_ld rfl rfl rfl (fun _ => by simp) hrv ?_; go_frame) | (refine wpQuiet_weak (by kernel_rfl) ?_; go_big_quiet_step (fail); refine wpQuiet_nil ?_))
            refine wpQuiet_nil ?_
            refine wpSch_row 4 13 (by simp) (by kernel_rfl) (hS.pick [1, 1, 2]) ?_
            (try simp only [List.take_succ_cons, List.take_zero, List.drop_succ_cons, List.drop_zero])
            repeat (first | (refine wpQuiet_ldl rfl rfl rfl (fun _ => by simp) ?_; go_frame) | (refine wpQuiet_ld rfl rfl rfl (fun _ => by simp) hrv ?_; go_frame) | (refine wpQuiet_weak (by kernel_rfl) ?_; go_big_quiet_step (fail); refine wpQuiet_nil ?_))
            refine wpQuiet_nil ?_
            refine wpOp_one (by simp) ?_
            (try simp only [List.take_succ_cons, List.take_zero, List.drop_succ_cons, List.drop_zero])
            (refine wpList_lit hS (n := 0) rfl rfl (vs := []) (e := 3) (size := 1) (by go_simp) rfl (by unfold maxLen; omega) ?_; clear hS; intro bL w2 hS)
            refine wpList_nil (stepQ_intro ⟨hS.pick [2, 2, 3], ?_⟩)
            go_frame
            refine wpOp_one (by simp) ?_
            (try simp only [List.take_succ_cons, List.take_zero, List.drop_succ_cons, List.drop_zero])
            (refine wpList_appv hS (s := .tmp 24) rfl rfl rfl rfl (bytes := 8) (size := 1) (z := .int .i64 0) (by rfl) rfl (by omega) rfl rfl (m := rz.length) (news := (rz.map (Value.int .i64)).take 20) (by simp; omega) (RowAt.keep HSR.out hS) (one_ints rz 20) rfl (by unfold maxLen; omega) (by omega) ?_; clear hS; intro ao' cap' w3 hS; simp only [Nat.zero_add, List.nil_append] at hS ⊢)
            refine wpList_nil (stepQ_intro ⟨hS.pick [2, 2, 3], ?_⟩)
            go_frame
            refine wpSch_done ?_
            (try simp only [List.take_succ_cons, List.take_zero, List.drop_succ_cons, List.drop_zero])
            go_wp2_with (first | go_skip | go_big_skip | go_big_guard | (refine wpList_sts hS rfl rfl rfl rfl (by simp) (by simpa using hjH) ?_; clear hS; intro w1 hS))
            refine noPanic_intro ?_
            go_wp2_with (first | go_skip | go_big_skip | go_big_guard)
            go_roundg (n - (j + 1))
            case rel =>
              have hlen : (rz.take 20).length = rz.length := by simp ; omega
              have hnx := HHD.out.next hjt (r := (ao', cap', rz.take 20)) HEJ.out rfl
              rw [show Rw.val (ao', cap', rz.take 20) = .slice ao' rz.length cap' by simp only [Rw.val, hlen]] at hnx
              refine ⟨j + 1, R.set j (ao', cap', rz.take 20), _, by omega, rfl, by go_num, hnx, ?_⟩
              rw [← List.map_take] at hS
              exact (rows_put (r := (ao', cap', rz.take 20)) (E := R) (k := j) hS hjR).pick [1, 0, 0, 0, 0]
            case measure => omega
          · go_wp2_with (first | go_skip | go_big_skip | go_big_guard | (refine wpList_ldl hS rfl rfl rfl (by simp) ?_))
            refine wp_region_tree (Holds w [vec (some ⟨bh, 0, none⟩) cap 23 1 H, blk b1 25 [.int .i64 N, .slice (some ⟨bh, 0, none⟩) n cap, .slice aO O.length cO], old w]) 18 (.takes (List.range' 0 3) (.takes (List.range' 4 13) (.one 3 (.one 17 .done)))) (by kernel_rfl) (by kernel_rfl) ?_
            replace hS := hS.drew
            refine wpSch_row 0 3 (by simp) (by kernel_rfl) (hS.pick [1, 1, 2]) ?_
            (try simp only [List.take_succ_cons, List.take_zero, List.drop_succ_cons, List.drop_zero])
            repeat (first | (refine wpQuiet_ldl rfl rfl rfl (fun _ => by simp) ?_; go_frame) | (refine wpQuiet_ld rfl rfl rfl (fun _ => by simp) hrv ?_; go_frame) | (refine wpQuiet_weak (by kernel_rfl) ?_; go_big_quiet_step (fail); refine wpQuiet_nil ?_))
            refine wpQuiet_nil ?_
            refine wpSch_row 4 13 (by simp) (by kernel_rfl) (hS.pick [1, 1, 2]) ?_
            (try simp only [List.take_succ_cons, List.take_zero, List.drop_succ_cons, List.drop_zero])
            repeat (first | (refine wpQuiet_ldl rfl rfl rfl (fun _ => by simp) ?_; go_frame) | (refine wpQuiet_ld rfl rfl rfl (fun _ => by simp) hrv ?_; go_frame) | (refine wpQuiet_weak (by kernel_rfl) ?_; go_big_quiet_step (fail); refine wpQuiet_nil ?_))
            refine wpQuiet_nil ?_
            refine wpOp_one (by simp) ?_
            (try simp only [List.take_succ_cons, List.take_zero, List.drop_succ_cons, List.drop_zero])
            (refine wpList_lit hS (n := 0) rfl rfl (vs := []) (e := 3) (size := 1) (by go_simp) rfl (by unfold maxLen; omega) ?_; clear hS; intro bL w2 hS)
            refine wpList_nil (stepQ_intro ⟨hS.pick [2, 2, 3], ?_⟩)
            go_frame
            refine wpOp_one (by simp) ?_
            (try simp only [List.take_succ_cons, List.take_zero, List.drop_succ_cons, List.drop_zero])
            (refine wpList_appv hS (s := .tmp 24) rfl rfl rfl rfl (bytes := 8) (size := 1) (z := .int .i64 0) (by rfl) rfl (by omega) rfl rfl (m := 20) (news := (rz.map (Value.int .i64)).take 20) (by simp; omega) (RowAt.keep HSR.out hS) (one_ints rz 20) rfl (by unfold maxLen; omega) (by omega) ?_; clear hS; intro ao' cap' w3 hS; simp only [Nat.zero_add, List.nil_append] at hS ⊢)
            refine wpList_nil (stepQ_intro ⟨hS.pick [2, 2, 3], ?_⟩)
            go_frame
            refine wpSch_done ?_
            (try simp only [List.take_succ_cons, List.take_zero, List.drop_succ_cons, List.drop_zero])
            go_wp2_with (first | go_skip | go_big_skip | go_big_guard | (refine wpList_sts hS rfl rfl rfl rfl (by simp) (by simpa using hjH) ?_; clear hS; intro w1 hS))
            refine noPanic_intro ?_
            go_wp2_with (first | go_skip | go_big_skip | go_big_guard)
            go_roundg (n - (j + 1))
            case rel =>
              have hlen : (rz.take 20).length = 20 := by simp ; omega
              have hnx := HHD.out.next hjt (r := (ao', cap', rz.take 20)) HEJ.out rfl
              rw [show Rw.val (ao', cap', rz.take 20) = .slice ao' 20 cap' by simp only [Rw.val, hlen]] at hnx
              refine ⟨j + 1, R.set j (ao', cap', rz.take 20), _, by omega, rfl, by go_num, hnx, ?_⟩
              rw [← List.map_take] at hS
              exact (rows_put (r := (ao', cap', rz.take 20)) (E := R) (k := j) hS hjR).pick [1, 0, 0, 0, 0]
            case measure => omega
      · obtain rfl : n = j := by omega
        have hdone := HHD.out.done HN.out
        obtain ⟨hH, hRE⟩ := hdone
        have HRE := Lib.hid hRE
        have HHH := Lib.hid hH
        clear hH hRE HHD
        rw [HHH.out] at hS
        clear HHH
        rcases List.eq_nil_or_concat O with hnil | hcons
        · subst hnil
          cases aO
          all_goals
            go_wp2_with (first | go_skip | go_big_skip | go_big_guard | (refine wpList_ldal (t := 25) hS rfl rfl rfl (by simp) (Try.sizeOf25 _) ?_) | (refine wpList_ldl hS rfl rfl rfl (by simp) ?_) | (refine wpList_lit hS (n := 0) rfl rfl (vs := []) (e := 3) (size := 1) (by go_simp) rfl (by unfold maxLen; omega) ?_; clear hS; intro bL w2 hS) | (refine wpList_appv hS (s := .tmp 40) rfl rfl rfl rfl (bytes := 8) (size := 1) (z := .int .i64 0) (by rfl) rfl (by omega) rfl rfl (m := 0) (news := []) rfl (.inl rfl) (by simp) rfl (by unfold maxLen; omega) (by omega) ?_; clear hS; intro ao' cap' w3 hS; simp only [Nat.zero_add]) | (refine wpList_sts hS rfl rfl rfl rfl (by simp) (by simp) ?_; clear hS; intro w1 hS) | (refine wpList_sta hS rfl rfl rfl rfl (by simp) (by simp [Value.oneCell']) (by simp) ?_; clear hS; intro w1 hS))
            refine bodyPost_ret (results_cell (b := b2) hS rfl rfl (by simp) (Try.sizeOf25 _)) rfl ?_
            refine ⟨ao, cap, R, ao', cap', ?_, HRE.out, ?_⟩
            · rw [show (fewE (E.map (·.2.2))).length = n by simp [fewE]; have := HN.out; omega, show (fewO ([] : List Int)).length = 0 from rfl]
            · unfold fewO
              rw [List.take_nil, List.map_nil]
              exact hS.pick [1, 1, 0, 2]
        · have hpos : 0 < O.length := by obtain ⟨l', x, rfl⟩ := hcons; simp
          clear hcons
          obtain ⟨be, oe, rfl, hccx⟩ := HSO.out.at (by simp; omega)
          clear hccx
          by_cases hle : O.length ≤ 70
          · go_wp2_with (first | go_skip | go_big_skip | go_big_guard | (refine wpList_ldal (t := 25) hS rfl rfl rfl (by simp) (Try.sizeOf25 _) ?_) | (refine wpList_ldl hS rfl rfl rfl (by simp) ?_) | (refine wpList_lit hS (n := 0) rfl rfl (vs := []) (e := 3) (size := 1) (by go_simp) rfl (by unfold maxLen; omega) ?_; clear hS; intro bL w2 hS) | (refine wpList_appv hS (s := .tmp 40) rfl rfl rfl rfl (bytes := 8) (size := 1) (z := .int .i64 0) (by rfl) rfl (by omega) rfl rfl (m := O.length) (news := (O.map (Value.int .i64)).take 70) (by simp; omega) (RowAt.keep HSO.out hS) (one_ints O 70) rfl (by unfold maxLen; omega) (by omega) ?_; clear hS; intro ao' cap' w3 hS; simp only [Nat.zero_add, List.nil_append] at hS ⊢) | (refine wpList_sts hS rfl rfl rfl rfl (by simp) (by simp) ?_; clear hS; intro w1 hS) | (refine wpList_sta hS rfl rfl rfl rfl (by simp) (by simp [Value.oneCell']) (by simp) ?_; clear hS; intro w1 hS))
            refine bodyPost_ret (results_cell (b := b2) hS rfl rfl (by simp) (Try.sizeOf25 _)) rfl ?_
            refine ⟨ao, cap, R, ao', cap', ?_, HRE.out, ?_⟩
            · rw [show (fewE (E.map (·.2.2))).length = n by simp [fewE]; have := HN.out; omega, show (fewO O).length = O.length by simp [fewO]; omega]
            · unfold fewO
              rw [List.map_take]
              exact hS.pick [1, 1, 0, 2]
          · go_wp2_with (first | go_skip | go_big_skip | go_big_guard | (refine wpList_ldal (t := 25) hS rfl rfl rfl (by simp) (Try.sizeOf25 _) ?_) | (refine wpList_ldl hS rfl rfl rfl (by simp) ?_) | (refine wpList_lit hS (n := 0) rfl rfl (vs := []) (e := 3) (size := 1) (by go_simp) rfl (by unfold maxLen; omega) ?_; clear hS; intro bL w2 hS) | (refine wpList_appv hS (s := .tmp 40) rfl rfl rfl rfl (bytes := 8) (size := 1) (z := .int .i64 0) (by rfl) rfl (by omega) rfl rfl (m := 70) (news := (O.map (Value.int .i64)).take 70) (by simp; omega) (RowAt.keep HSO.out hS) (one_ints O 70) rfl (by unfold maxLen; omega) (by omega) ?_; clear hS; intro ao' cap' w3 hS; simp only [Nat.zero_add, List.nil_append] at hS ⊢) | (refine wpList_sts hS rfl rfl rfl rfl (by simp) (by simp) ?_; clear hS; intro w1 hS) | (refine wpList_sta hS rfl rfl rfl rfl (by simp) (by simp [Value.oneCell']) (by simp) ?_; clear hS; intro w1 hS))
            refine bodyPost_ret (results_cell (b := b2) hS rfl rfl (by simp) (Try.sizeOf25 _)) rfl ?_
            refine ⟨ao, cap, R, ao', cap', ?_, HRE.out, ?_⟩
            · rw [show (fewE (E.map (·.2.2))).length = n by simp [fewE]; have := HN.out; omega, show (fewO O).length = 70 by simp [fewO]; omega]
            · unfold fewO
              rw [List.map_take]
              exact hS.pick [1, 1, 0, 2]

end Go.Proofs.Ytecegbgebefheaa
