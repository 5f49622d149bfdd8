/- The Go function VerdictTwice returns true: its walk. For all arguments that can be read. -/
import Derived.Test.YtecegbgebefheaaLaw
import Derived.Test.YtecegbgebefheaaTwiceM
import Derived.Deep.CutRange
set_option linter.unusedSimpArgs false
set_option linter.unusedVariables false
namespace Go.Proofs.Ytecegbgebefheaa
open Go.Sep Go.RowKit

theorem of_made2 {n : Nat} {bE : Nat} {aO : Option Addr} {cO : Nat} {R : List Rw} {E : List (List Int)} {O : List Int} {w : World} (hR : Rows w (some ⟨bE, 0, none⟩) R) (hO : RowAt w aO (O.map (Value.int .i64))) (hE : R.map (·.2.2) = E) (hg : Good n E O) :
    Calls Try.prog 11 #[.agg #[.int .i64 n, .slice (some ⟨bE, 0, none⟩) n n, .slice aO n cO]] w (OfGood w n (Vd n E O)) := by
  subst hE
  refine of_good n (some ⟨bE, 0, none⟩) aO n cO R O w hR hO ?_ hg.right hg.small (by simpa using hg.rows) hg.owns hg.inside _ hg.sol
  intro e he
  have := hg.short e.2.2 (List.mem_map_of_mem he)
  unfold maxLen
  omega

theorem Good.twice {n : Nat} {E G : List (List Int)} {O : List Int} (h : Good n E O) (t : Tw E G n n 0 0) (hs : ∀ e ∈ E, e.length ≤ 200) : Good n G O where
  small := h.small
  rows := t.len
  owns := h.owns
  inside := by
    intro e he x hx
    obtain ⟨a, ha, rfl⟩ := List.mem_iff_getElem.1 he
    have h1 := (t.same h.rows a x).1 (by simpa [ha] using hx)
    exact h.inside.row a x h1
  own := h.own
  short := by
    intro e he
    obtain ⟨a, ha, rfl⟩ := List.mem_iff_getElem.1 he
    have h1 := t.small hs a (by rw [← t.len]; exact ha)
    rw [show G.getD a [] = G[a] by simp [ha]] at h1
    omega

set_option maxRecDepth 100000 in
set_option maxHeartbeats 40000000 in
theorem twice_any (n0 : Int) (aE aO aM : Option Addr) (cE cO cM : Nat) (es : List (Int × Int)) (own many : List Int) (w : World) (hE : PairAt w aE es) (hO : RowAt w aO (own.map (Value.int .u8))) (hM : RowAt w aM (many.map (Value.int .u8)))
    (hb1 : ∀ p ∈ es, 0 ≤ p.1 ∧ p.1 < 256 ∧ 0 ≤ p.2 ∧ p.2 < 256) (hb2 : Bytes own) (hb3 : Bytes many) (hm1 : es.length ≤ maxLen) (hm2 : own.length ≤ maxLen) (hm3 : many.length ≤ maxLen) :
    Calls Try.prog 7 #[.int .i64 n0, .slice aE es.length cE, .slice aO own.length cO, .slice aM many.length cM] w fun e w' => e = .returned (.bool true) ∧ Holds w [old w] w' := by
  obtain ⟨n, hn⟩ : ∃ n, n = pickOf n0 65 := ⟨_, rfl⟩
  have hnl : n < 65 := by rw [hn]; exact pickOf_lt n0 65 (by omega)
  have HG := Lib.hid (Good.made (n := n) es own hnl)
  have hsh : ∀ e ∈ madeE n (es.take 200), e.length ≤ 200 := fun e he => by
    have := madeE_short n (es.take 200) e he
    simp at this
    omega
  have HSH := Lib.hid hsh
  have hmade := fun w1 (h : Holds w [old w] w1) => made_any n0 n aE aO cE cO es own w1 hn (by
    rcases hE with h0 | ⟨b, off, e, hc⟩
    · exact .inl h0
    · exact .inr ⟨b, off, e, fun i p hi => ⟨h.old_cell (hc i p hi).1, h.old_cell (hc i p hi).2⟩⟩) (hO.keep h) hb1 hb2 hm1 hm2
  have HM := Lib.hid hmade
  have HMM := Lib.hid hM
  have HB3 := Lib.hid hb3
  clear hmade hE hO hM hb1 hb2 hb3 hm1 hm2 hn hsh
  unfold maxLen at hm3
  have hS := Holds.start w
  have hnn : ((n : Int) != (n : Int)) = false := by simp
  go_enter Try.func7, Try.ntmps7
  go_upto_region 3 with (first | go_skip | go_big_skip | go_big_guard | (refine wpList_ldal (t := 25) hS rfl rfl rfl (by simp) (Try.sizeOf25 _) ?_) | (refine wpList_sta hS rfl rfl rfl rfl (by simp) (by simp [Value.oneCell']) (by simp) ?_; clear hS; intro w1 hS) | (refine wpList_alloc hS (t := 25) rfl rfl (by simp; rfl) (vs := [.int .i64 0, .slice none 0 0, .slice none 0 0]) rfl ?_; clear hS; intro b2 w1 hS) | (go_at_call 9; refine (shown_any _).mono ?_; rintro e w' ⟨rfl, hS'⟩; replace hS := hS.over hS'; clear hS') | (go_at_call 14; refine (HM.out _ hS).mono ?_; rintro e w2 ⟨bE, bO, R, rfl, hR, hS'⟩; replace hS' := graftN [_, _, _] hS hS'; simp only [List.cons_append, List.nil_append] at hS'; have HS := Lib.hid hS'; clear hS hS'; have HR := Lib.hid hR; clear hR; have hS := Holds.start w2))
  have hR2 : Rows w2 (some ⟨bE, 0, none⟩) R := ⟨row_of HS.out bE, rowsP_at (HS.out.pick [1])⟩
  have hO2 : RowAt w2 (some ⟨bO, 0, none⟩) ((madeO n own).map (Value.int .i64)) := row_of HS.out bO
  have hM2 : RowAt w2 aM (many.map (Value.int .u8)) := HMM.out.keep HS.out
  have hcE : ∀ i r, R[i]? = some r → w2.cell? ⟨bE, i, none⟩ = some (Rw.val r) := fun i r h => HS.out.cell bE i (by simp [h])
  have hon : ∀ j u, ((madeO n own).map (Value.int .i64))[j]? = some u → w2.cell? ((⟨bO, 0, none⟩ : Addr).add j) = some u := news_of HS.out bO
  have hol : (madeO n own).length = n := madeO_length n own
  have hrl : R.length = n := by
    have := congrArg List.length HR.out
    rwa [List.length_map, madeE_length] at this
  have HRL := Lib.hid hrl
  have HR2 := Lib.hid hR2
  have HO2 := Lib.hid hO2
  have HM2 := Lib.hid hM2
  have HCE := Lib.hid hcE
  have HON := Lib.hid hon
  have HOLN := Lib.hid hol
  have HDN := Lib.hid (HS.out.oldOnly)
  clear hrl hR2 hO2 hM2 hcE hon hol HS HMM
  generalize madeO n own = O at *
  generalize madeE n (es.take 200) = E at *
  go_frame
  go_cut [11] from 28 (fun s wx => ∃ bE2 ao cap bG, s = .pointer (some ⟨bG, 0, none⟩) ∧ Holds w2 [vec (some ⟨bE2, 0, none⟩) n 23 1 (List.replicate n (.slice none 0 0)), vec ao cap 3 1 (O.map (Value.int .i64)), blk bG 25 [.int .i64 n, .slice (some ⟨bE2, 0, none⟩) n n, .slice ao n cap], blk b2 25 [.int .i64 n, .slice (some ⟨bE, 0, none⟩) n n, .slice (some ⟨bO, 0, none⟩) n n], old w2] wx)
  case first =>
    refine wp_region_tree (Holds w2 [blk b2 25 [.int .i64 n, .slice (some ⟨bE, 0, none⟩) n n, .slice (some ⟨bO, 0, none⟩) n n], old w2]) 11 (.takes (List.range' 0 4) (.takes (List.range' 6 2) (.three 4 5 10 (.two 5 10 (.two 8 10 (.takes (List.range' 9 1) (.one 10 .done)) (.one 8 (.takes (List.range' 9 1) .done))) (.one 5 (.one 8 (.takes (List.range' 9 1) .done)))) (.three 4 8 10 (.two 8 10 (.takes (List.range' 9 1) (.one 10 .done)) (.one 8 (.takes (List.range' 9 1) .done))) (.two 4 10 (.takes (List.range' 9 1) (.one 10 .done)) (.one 4 (.takes (List.range' 9 1) .done))) (.two 4 8 (.one 8 (.takes (List.range' 9 1) .done)) (.one 4 (.takes (List.range' 9 1) .done)))) (.two 4 5 (.one 5 (.one 8 (.takes (List.range' 9 1) .done))) (.two 4 8 (.one 8 (.takes (List.range' 9 1) .done)) (.one 4 (.takes (List.range' 9 1) .done))))))) (by kernel_rfl) (by kernel_rfl) ?_
    replace hS := hS.drew
    (refine wpSch_row 0 4 (by simp) (by kernel_rfl) (by first | exact hS.oldOnly | exact hS | exact hS.pick [0, 1] | exact hS.pick [1, 1] | exact hS.pick [2, 2] | exact hS.pick [3, 3] | exact hS.pick [4, 4]) ?_; (try simp only [List.take_succ_cons, List.take_zero, List.drop_succ_cons, List.drop_zero]); (repeat (first | (refine wpQuiet_ldl rfl rfl rfl (fun _ => by simp) ?_; go_frame) | (refine wpQuiet_ldo rfl rfl rfl (by with_reducible assumption) (fun _ => by simp) ?_; go_frame) | (refine wpQuiet_weak (by kernel_rfl) ?_; go_big_quiet_step (fail); refine wpQuiet_nil ?_))); refine wpQuiet_nil ?_)
    (refine wpSch_row 6 2 (by simp) (by kernel_rfl) (by first | exact hS.oldOnly | exact hS | exact hS.pick [0, 1] | exact hS.pick [1, 1] | exact hS.pick [2, 2] | exact hS.pick [3, 3] | exact hS.pick [4, 4]) ?_; (try simp only [List.take_succ_cons, List.take_zero, List.drop_succ_cons, List.drop_zero]); (repeat (first | (refine wpQuiet_ldl rfl rfl rfl (fun _ => by simp) ?_; go_frame) | (refine wpQuiet_ldo rfl rfl rfl (by with_reducible assumption) (fun _ => by simp) ?_; go_frame) | (refine wpQuiet_weak (by kernel_rfl) ?_; go_big_quiet_step (fail); refine wpQuiet_nil ?_))); refine wpQuiet_nil ?_)
    refine ⟨?_, ?_, ?_⟩
    · refine wpOp_one (by simp) ?_
      (try simp only [List.take_succ_cons, List.take_zero, List.drop_succ_cons, List.drop_zero])
      (refine wpList_make hS rfl rfl rfl rfl n rfl rfl rfl (bytes := 24) (size := 1) (z := .slice none 0 0) (by rfl) rfl rfl (by omega) (by unfold maxLen; omega) ?_; clear hS; intro bE2 w1 hS)
      (refine wpList_nil (stepQ_intro ⟨by first | exact hS.oldOnly | exact hS | exact hS.pick [0, 1] | exact hS.pick [1, 1] | exact hS.pick [2, 2] | exact hS.pick [3, 3] | exact hS.pick [4, 4], ?_⟩); go_frame)
      refine ⟨?_, ?_⟩
      · refine wpOp_one (by simp) ?_
        (try simp only [List.take_succ_cons, List.take_zero, List.drop_succ_cons, List.drop_zero])
        (refine wpList_lit hS (n := 0) rfl rfl (vs := []) (e := 3) (size := 1) (by go_simp) rfl (by unfold maxLen; omega) ?_; clear hS; intro bL w1 hS)
        (refine wpList_nil (stepQ_intro ⟨by first | exact hS.oldOnly | exact hS | exact hS.pick [0, 1] | exact hS.pick [1, 1] | exact hS.pick [2, 2] | exact hS.pick [3, 3] | exact hS.pick [4, 4], ?_⟩); go_frame)
        refine ⟨?_, ?_⟩
        · refine wpOp_one (by simp) ?_
          (try simp only [List.take_succ_cons, List.take_zero, List.drop_succ_cons, List.drop_zero])
          (refine wpList_app hS (s := .tmp 33) rfl rfl rfl rfl rfl (bytes := 8) (size := 1) (z := .int .i64 0) (by rfl) rfl (by omega) rfl rfl (m := n) (news := O.map (Value.int .i64)) (by rw [List.length_map, HOLN.out, Nat.mul_one]) (fun j u hj => hS.old_cell (HON.out j u hj)) (by simp [Value.oneCell']) (by unfold maxLen; omega) (by omega) ?_; clear hS; intro ao cap w1 hS)
          simp only [List.nil_append, Nat.zero_add] at hS ⊢
          (refine wpList_nil (stepQ_intro ⟨by first | exact hS.oldOnly | exact hS | exact hS.pick [0, 1] | exact hS.pick [1, 1] | exact hS.pick [2, 2] | exact hS.pick [3, 3] | exact hS.pick [4, 4], ?_⟩); go_frame)
          (refine wpSch_row 9 1 (by simp) (by kernel_rfl) (by first | exact hS.oldOnly | exact hS | exact hS.pick [0, 1] | exact hS.pick [1, 1] | exact hS.pick [2, 2] | exact hS.pick [3, 3] | exact hS.pick [4, 4]) ?_; (try simp only [List.take_succ_cons, List.take_zero, List.drop_succ_cons, List.drop_zero]); (repeat (first | (refine wpQuiet_ldl rfl rfl rfl (fun _ => by simp) ?_; go_frame) | (refine wpQuiet_ldo rfl rfl rfl (by with_reducible assumption) (fun _ => by simp) ?_; go_frame) | (refine wpQuiet_weak (by kernel_rfl) ?_; go_big_quiet_step (fail); refine wpQuiet_nil ?_))); refine wpQuiet_nil ?_)
          refine wpOp_one (by simp) ?_
          (try simp only [List.take_succ_cons, List.take_zero, List.drop_succ_cons, List.drop_zero])
          (refine wpList_alloc hS (t := 25) rfl rfl (by simp; rfl) (vs := [.int .i64 0, .slice none 0 0, .slice none 0 0]) rfl ?_; clear hS; intro bG w1 hS)
          (refine wpList_nil (stepQ_intro ⟨by first | exact hS.oldOnly | exact hS | exact hS.pick [0, 1] | exact hS.pick [1, 1] | exact hS.pick [2, 2] | exact hS.pick [3, 3] | exact hS.pick [4, 4], ?_⟩); go_frame)
          refine wpSch_done ?_
          (try simp only [List.take_succ_cons, List.take_zero, List.drop_succ_cons, List.drop_zero])
          (refine wpList_sta hS rfl rfl rfl rfl (by simp) (by simp [Value.oneCell']) (by simp) ?_; clear hS; intro w1 hS)
          refine wpList_nil (noPanic_intro ?_)
          go_wp2_with (first | go_skip | go_big_skip | go_big_guard)
          go_meet
          case rel => exact ⟨bE2, ao, cap, bG, rfl, hS.pick [2, 1, 0, 0, 0]⟩
        · refine wpOp_one (by simp) ?_
          (try simp only [List.take_succ_cons, List.take_zero, List.drop_succ_cons, List.drop_zero])
          (refine wpList_alloc hS (t := 25) rfl rfl (by simp; rfl) (vs := [.int .i64 0, .slice none 0 0, .slice none 0 0]) rfl ?_; clear hS; intro bG w1 hS)
          (refine wpList_nil (stepQ_intro ⟨by first | exact hS.oldOnly | exact hS | exact hS.pick [0, 1] | exact hS.pick [1, 1] | exact hS.pick [2, 2] | exact hS.pick [3, 3] | exact hS.pick [4, 4], ?_⟩); go_frame)
          refine wpOp_one (by simp) ?_
          (try simp only [List.take_succ_cons, List.take_zero, List.drop_succ_cons, List.drop_zero])
          (refine wpList_app hS (s := .tmp 33) rfl rfl rfl rfl rfl (bytes := 8) (size := 1) (z := .int .i64 0) (by rfl) rfl (by omega) rfl rfl (m := n) (news := O.map (Value.int .i64)) (by rw [List.length_map, HOLN.out, Nat.mul_one]) (fun j u hj => hS.old_cell (HON.out j u hj)) (by simp [Value.oneCell']) (by unfold maxLen; omega) (by omega) ?_; clear hS; intro ao cap w1 hS)
          simp only [List.nil_append, Nat.zero_add] at hS ⊢
          (refine wpList_nil (stepQ_intro ⟨by first | exact hS.oldOnly | exact hS | exact hS.pick [0, 1] | exact hS.pick [1, 1] | exact hS.pick [2, 2] | exact hS.pick [3, 3] | exact hS.pick [4, 4], ?_⟩); go_frame)
          (refine wpSch_row 9 1 (by simp) (by kernel_rfl) (by first | exact hS.oldOnly | exact hS | exact hS.pick [0, 1] | exact hS.pick [1, 1] | exact hS.pick [2, 2] | exact hS.pick [3, 3] | exact hS.pick [4, 4]) ?_; (try simp only [List.take_succ_cons, List.take_zero, List.drop_succ_cons, List.drop_zero]); (repeat (first | (refine wpQuiet_ldl rfl rfl rfl (fun _ => by simp) ?_; go_frame) | (refine wpQuiet_ldo rfl rfl rfl (by with_reducible assumption) (fun _ => by simp) ?_; go_frame) | (refine wpQuiet_weak (by kernel_rfl) ?_; go_big_quiet_step (fail); refine wpQuiet_nil ?_))); refine wpQuiet_nil ?_)
          refine wpSch_done ?_
          (try simp only [List.take_succ_cons, List.take_zero, List.drop_succ_cons, List.drop_zero])
          (refine wpList_sta hS rfl rfl rfl rfl (by simp) (by simp [Value.oneCell']) (by simp) ?_; clear hS; intro w1 hS)
          refine wpList_nil (noPanic_intro ?_)
          go_wp2_with (first | go_skip | go_big_skip | go_big_guard)
          go_meet
          case rel => exact ⟨bE2, ao, cap, bG, rfl, hS.pick [2, 1, 0, 0, 0]⟩
      · refine wpOp_one (by simp) ?_
        (try simp only [List.take_succ_cons, List.take_zero, List.drop_succ_cons, List.drop_zero])
        (refine wpList_alloc hS (t := 25) rfl rfl (by simp; rfl) (vs := [.int .i64 0, .slice none 0 0, .slice none 0 0]) rfl ?_; clear hS; intro bG w1 hS)
        (refine wpList_nil (stepQ_intro ⟨by first | exact hS.oldOnly | exact hS | exact hS.pick [0, 1] | exact hS.pick [1, 1] | exact hS.pick [2, 2] | exact hS.pick [3, 3] | exact hS.pick [4, 4], ?_⟩); go_frame)
        refine wpOp_one (by simp) ?_
        (try simp only [List.take_succ_cons, List.take_zero, List.drop_succ_cons, List.drop_zero])
        (refine wpList_lit hS (n := 0) rfl rfl (vs := []) (e := 3) (size := 1) (by go_simp) rfl (by unfold maxLen; omega) ?_; clear hS; intro bL w1 hS)
        (refine wpList_nil (stepQ_intro ⟨by first | exact hS.oldOnly | exact hS | exact hS.pick [0, 1] | exact hS.pick [1, 1] | exact hS.pick [2, 2] | exact hS.pick [3, 3] | exact hS.pick [4, 4], ?_⟩); go_frame)
        refine wpOp_one (by simp) ?_
        (try simp only [List.take_succ_cons, List.take_zero, List.drop_succ_cons, List.drop_zero])
        (refine wpList_app hS (s := .tmp 33) rfl rfl rfl rfl rfl (bytes := 8) (size := 1) (z := .int .i64 0) (by rfl) rfl (by omega) rfl rfl (m := n) (news := O.map (Value.int .i64)) (by rw [List.length_map, HOLN.out, Nat.mul_one]) (fun j u hj => hS.old_cell (HON.out j u hj)) (by simp [Value.oneCell']) (by unfold maxLen; omega) (by omega) ?_; clear hS; intro ao cap w1 hS)
        simp only [List.nil_append, Nat.zero_add] at hS ⊢
        (refine wpList_nil (stepQ_intro ⟨by first | exact hS.oldOnly | exact hS | exact hS.pick [0, 1] | exact hS.pick [1, 1] | exact hS.pick [2, 2] | exact hS.pick [3, 3] | exact hS.pick [4, 4], ?_⟩); go_frame)
        (refine wpSch_row 9 1 (by simp) (by kernel_rfl) (by first | exact hS.oldOnly | exact hS | exact hS.pick [0, 1] | exact hS.pick [1, 1] | exact hS.pick [2, 2] | exact hS.pick [3, 3] | exact hS.pick [4, 4]) ?_; (try simp only [List.take_succ_cons, List.take_zero, List.drop_succ_cons, List.drop_zero]); (repeat (first | (refine wpQuiet_ldl rfl rfl rfl (fun _ => by simp) ?_; go_frame) | (refine wpQuiet_ldo rfl rfl rfl (by with_reducible assumption) (fun _ => by simp) ?_; go_frame) | (refine wpQuiet_weak (by kernel_rfl) ?_; go_big_quiet_step (fail); refine wpQuiet_nil ?_))); refine wpQuiet_nil ?_)
        refine wpSch_done ?_
        (try simp only [List.take_succ_cons, List.take_zero, List.drop_succ_cons, List.drop_zero])
        (refine wpList_sta hS rfl rfl rfl rfl (by simp) (by simp [Value.oneCell']) (by simp) ?_; clear hS; intro w1 hS)
        refine wpList_nil (noPanic_intro ?_)
        go_wp2_with (first | go_skip | go_big_skip | go_big_guard)
        go_meet
        case rel => exact ⟨bE2, ao, cap, bG, rfl, hS.pick [2, 0, 0, 0, 0]⟩
    · refine wpOp_one (by simp) ?_
      (try simp only [List.take_succ_cons, List.take_zero, List.drop_succ_cons, List.drop_zero])
      (refine wpList_lit hS (n := 0) rfl rfl (vs := []) (e := 3) (size := 1) (by go_simp) rfl (by unfold maxLen; omega) ?_; clear hS; intro bL w1 hS)
      (refine wpList_nil (stepQ_intro ⟨by first | exact hS.oldOnly | exact hS | exact hS.pick [0, 1] | exact hS.pick [1, 1] | exact hS.pick [2, 2] | exact hS.pick [3, 3] | exact hS.pick [4, 4], ?_⟩); go_frame)
      refine ⟨?_, ?_, ?_⟩
      · refine wpOp_one (by simp) ?_
        (try simp only [List.take_succ_cons, List.take_zero, List.drop_succ_cons, List.drop_zero])
        (refine wpList_make hS rfl rfl rfl rfl n rfl rfl rfl (bytes := 24) (size := 1) (z := .slice none 0 0) (by rfl) rfl rfl (by omega) (by unfold maxLen; omega) ?_; clear hS; intro bE2 w1 hS)
        (refine wpList_nil (stepQ_intro ⟨by first | exact hS.oldOnly | exact hS | exact hS.pick [0, 1] | exact hS.pick [1, 1] | exact hS.pick [2, 2] | exact hS.pick [3, 3] | exact hS.pick [4, 4], ?_⟩); go_frame)
        refine ⟨?_, ?_⟩
        · refine wpOp_one (by simp) ?_
          (try simp only [List.take_succ_cons, List.take_zero, List.drop_succ_cons, List.drop_zero])
          (refine wpList_app hS (s := .tmp 33) rfl rfl rfl rfl rfl (bytes := 8) (size := 1) (z := .int .i64 0) (by rfl) rfl (by omega) rfl rfl (m := n) (news := O.map (Value.int .i64)) (by rw [List.length_map, HOLN.out, Nat.mul_one]) (fun j u hj => hS.old_cell (HON.out j u hj)) (by simp [Value.oneCell']) (by unfold maxLen; omega) (by omega) ?_; clear hS; intro ao cap w1 hS)
          simp only [List.nil_append, Nat.zero_add] at hS ⊢
          (refine wpList_nil (stepQ_intro ⟨by first | exact hS.oldOnly | exact hS | exact hS.pick [0, 1] | exact hS.pick [1, 1] | exact hS.pick [2, 2] | exact hS.pick [3, 3] | exact hS.pick [4, 4], ?_⟩); go_frame)
          (refine wpSch_row 9 1 (by simp) (by kernel_rfl) (by first | exact hS.oldOnly | exact hS | exact hS.pick [0, 1] | exact hS.pick [1, 1] | exact hS.pick [2, 2] | exact hS.pick [3, 3] | exact hS.pick [4, 4]) ?_; (try simp only [List.take_succ_cons, List.take_zero, List.drop_succ_cons, List.drop_zero]); (repeat (first | (refine wpQuiet_ldl rfl rfl rfl (fun _ => by simp) ?_; go_frame) | (refine wpQuiet_ldo rfl rfl rfl (by with_reducible assumption) (fun _ => by simp) ?_; go_frame) | (refine wpQuiet_weak (by kernel_rfl) ?_; go_big_quiet_step (fail); refine wpQuiet_nil ?_))); refine wpQuiet_nil ?_)
          refine wpOp_one (by simp) ?_
          (try simp only [List.take_succ_cons, List.take_zero, List.drop_succ_cons, List.drop_zero])
          (refine wpList_alloc hS (t := 25) rfl rfl (by simp; rfl) (vs := [.int .i64 0, .slice none 0 0, .slice none 0 0]) rfl ?_; clear hS; intro bG w1 hS)
          (refine wpList_nil (stepQ_intro ⟨by first | exact hS.oldOnly | exact hS | exact hS.pick [0, 1] | exact hS.pick [1, 1] | exact hS.pick [2, 2] | exact hS.pick [3, 3] | exact hS.pick [4, 4], ?_⟩); go_frame)
          refine wpSch_done ?_
          (try simp only [List.take_succ_cons, List.take_zero, List.drop_succ_cons, List.drop_zero])
          (refine wpList_sta hS rfl rfl rfl rfl (by simp) (by simp [Value.oneCell']) (by simp) ?_; clear hS; intro w1 hS)
          refine wpList_nil (noPanic_intro ?_)
          go_wp2_with (first | go_skip | go_big_skip | go_big_guard)
          go_meet
          case rel => exact ⟨bE2, ao, cap, bG, rfl, hS.pick [1, 1, 0, 0, 0]⟩
        · refine wpOp_one (by simp) ?_
          (try simp only [List.take_succ_cons, List.take_zero, List.drop_succ_cons, List.drop_zero])
          (refine wpList_alloc hS (t := 25) rfl rfl (by simp; rfl) (vs := [.int .i64 0, .slice none 0 0, .slice none 0 0]) rfl ?_; clear hS; intro bG w1 hS)
          (refine wpList_nil (stepQ_intro ⟨by first | exact hS.oldOnly | exact hS | exact hS.pick [0, 1] | exact hS.pick [1, 1] | exact hS.pick [2, 2] | exact hS.pick [3, 3] | exact hS.pick [4, 4], ?_⟩); go_frame)
          refine wpOp_one (by simp) ?_
          (try simp only [List.take_succ_cons, List.take_zero, List.drop_succ_cons, List.drop_zero])
          (refine wpList_app hS (s := .tmp 33) rfl rfl rfl rfl rfl (bytes := 8) (size := 1) (z := .int .i64 0) (by rfl) rfl (by omega) rfl rfl (m := n) (news := O.map (Value.int .i64)) (by rw [List.length_map, HOLN.out, Nat.mul_one]) (fun j u hj => hS.old_cell (HON.out j u hj)) (by simp [Value.oneCell']) (by unfold maxLen; omega) (by omega) ?_; clear hS; intro ao cap w1 hS)
          simp only [List.nil_append, Nat.zero_add] at hS ⊢
          (refine wpList_nil (stepQ_intro ⟨by first | exact hS.oldOnly | exact hS | exact hS.pick [0, 1] | exact hS.pick [1, 1] | exact hS.pick [2, 2] | exact hS.pick [3, 3] | exact hS.pick [4, 4], ?_⟩); go_frame)
          (refine wpSch_row 9 1 (by simp) (by kernel_rfl) (by first | exact hS.oldOnly | exact hS | exact hS.pick [0, 1] | exact hS.pick [1, 1] | exact hS.pick [2, 2] | exact hS.pick [3, 3] | exact hS.pick [4, 4]) ?_; (try simp only [List.take_succ_cons, List.take_zero, List.drop_succ_cons, List.drop_zero]); (repeat (first | (refine wpQuiet_ldl rfl rfl rfl (fun _ => by simp) ?_; go_frame) | (refine wpQuiet_ldo rfl rfl rfl (by with_reducible assumption) (fun _ => by simp) ?_; go_frame) | (refine wpQuiet_weak (by kernel_rfl) ?_; go_big_quiet_step (fail); refine wpQuiet_nil ?_))); refine wpQuiet_nil ?_)
          refine wpSch_done ?_
          (try simp only [List.take_succ_cons, List.take_zero, List.drop_succ_cons, List.drop_zero])
          (refine wpList_sta hS rfl rfl rfl rfl (by simp) (by simp [Value.oneCell']) (by simp) ?_; clear hS; intro w1 hS)
          refine wpList_nil (noPanic_intro ?_)
          go_wp2_with (first | go_skip | go_big_skip | go_big_guard)
          go_meet
          case rel => exact ⟨bE2, ao, cap, bG, rfl, hS.pick [1, 1, 0, 0, 0]⟩
      · refine wpOp_one (by simp) ?_
        (try simp only [List.take_succ_cons, List.take_zero, List.drop_succ_cons, List.drop_zero])
        (refine wpList_app hS (s := .tmp 33) rfl rfl rfl rfl rfl (bytes := 8) (size := 1) (z := .int .i64 0) (by rfl) rfl (by omega) rfl rfl (m := n) (news := O.map (Value.int .i64)) (by rw [List.length_map, HOLN.out, Nat.mul_one]) (fun j u hj => hS.old_cell (HON.out j u hj)) (by simp [Value.oneCell']) (by unfold maxLen; omega) (by omega) ?_; clear hS; intro ao cap w1 hS)
        simp only [List.nil_append, Nat.zero_add] at hS ⊢
        (refine wpList_nil (stepQ_intro ⟨by first | exact hS.oldOnly | exact hS | exact hS.pick [0, 1] | exact hS.pick [1, 1] | exact hS.pick [2, 2] | exact hS.pick [3, 3] | exact hS.pick [4, 4], ?_⟩); go_frame)
        refine ⟨?_, ?_⟩
        · refine wpOp_one (by simp) ?_
          (try simp only [List.take_succ_cons, List.take_zero, List.drop_succ_cons, List.drop_zero])
          (refine wpList_make hS rfl rfl rfl rfl n rfl rfl rfl (bytes := 24) (size := 1) (z := .slice none 0 0) (by rfl) rfl rfl (by omega) (by unfold maxLen; omega) ?_; clear hS; intro bE2 w1 hS)
          (refine wpList_nil (stepQ_intro ⟨by first | exact hS.oldOnly | exact hS | exact hS.pick [0, 1] | exact hS.pick [1, 1] | exact hS.pick [2, 2] | exact hS.pick [3, 3] | exact hS.pick [4, 4], ?_⟩); go_frame)
          (refine wpSch_row 9 1 (by simp) (by kernel_rfl) (by first | exact hS.oldOnly | exact hS | exact hS.pick [0, 1] | exact hS.pick [1, 1] | exact hS.pick [2, 2] | exact hS.pick [3, 3] | exact hS.pick [4, 4]) ?_; (try simp only [List.take_succ_cons, List.take_zero, List.drop_succ_cons, List.drop_zero]); (repeat (first | (refine wpQuiet_ldl rfl rfl rfl (fun _ => by simp) ?_; go_frame) | (refine wpQuiet_ldo rfl rfl rfl (by with_reducible assumption) (fun _ => by simp) ?_; go_frame) | (refine wpQuiet_weak (by kernel_rfl) ?_; go_big_quiet_step (fail); refine wpQuiet_nil ?_))); refine wpQuiet_nil ?_)
          refine wpOp_one (by simp) ?_
          (try simp only [List.take_succ_cons, List.take_zero, List.drop_succ_cons, List.drop_zero])
          (refine wpList_alloc hS (t := 25) rfl rfl (by simp; rfl) (vs := [.int .i64 0, .slice none 0 0, .slice none 0 0]) rfl ?_; clear hS; intro bG w1 hS)
          (refine wpList_nil (stepQ_intro ⟨by first | exact hS.oldOnly | exact hS | exact hS.pick [0, 1] | exact hS.pick [1, 1] | exact hS.pick [2, 2] | exact hS.pick [3, 3] | exact hS.pick [4, 4], ?_⟩); go_frame)
          refine wpSch_done ?_
          (try simp only [List.take_succ_cons, List.take_zero, List.drop_succ_cons, List.drop_zero])
          (refine wpList_sta hS rfl rfl rfl rfl (by simp) (by simp [Value.oneCell']) (by simp) ?_; clear hS; intro w1 hS)
          refine wpList_nil (noPanic_intro ?_)
          go_wp2_with (first | go_skip | go_big_skip | go_big_guard)
          go_meet
          case rel => exact ⟨bE2, ao, cap, bG, rfl, hS.pick [1, 1, 0, 0, 0]⟩
        · refine wpOp_one (by simp) ?_
          (try simp only [List.take_succ_cons, List.take_zero, List.drop_succ_cons, List.drop_zero])
          (refine wpList_alloc hS (t := 25) rfl rfl (by simp; rfl) (vs := [.int .i64 0, .slice none 0 0, .slice none 0 0]) rfl ?_; clear hS; intro bG w1 hS)
          (refine wpList_nil (stepQ_intro ⟨by first | exact hS.oldOnly | exact hS | exact hS.pick [0, 1] | exact hS.pick [1, 1] | exact hS.pick [2, 2] | exact hS.pick [3, 3] | exact hS.pick [4, 4], ?_⟩); go_frame)
          refine wpOp_one (by simp) ?_
          (try simp only [List.take_succ_cons, List.take_zero, List.drop_succ_cons, List.drop_zero])
          (refine wpList_make hS rfl rfl rfl rfl n rfl rfl rfl (bytes := 24) (size := 1) (z := .slice none 0 0) (by rfl) rfl rfl (by omega) (by unfold maxLen; omega) ?_; clear hS; intro bE2 w1 hS)
          (refine wpList_nil (stepQ_intro ⟨by first | exact hS.oldOnly | exact hS | exact hS.pick [0, 1] | exact hS.pick [1, 1] | exact hS.pick [2, 2] | exact hS.pick [3, 3] | exact hS.pick [4, 4], ?_⟩); go_frame)
          (refine wpSch_row 9 1 (by simp) (by kernel_rfl) (by first | exact hS.oldOnly | exact hS | exact hS.pick [0, 1] | exact hS.pick [1, 1] | exact hS.pick [2, 2] | exact hS.pick [3, 3] | exact hS.pick [4, 4]) ?_; (try simp only [List.take_succ_cons, List.take_zero, List.drop_succ_cons, List.drop_zero]); (repeat (first | (refine wpQuiet_ldl rfl rfl rfl (fun _ => by simp) ?_; go_frame) | (refine wpQuiet_ldo rfl rfl rfl (by with_reducible assumption) (fun _ => by simp) ?_; go_frame) | (refine wpQuiet_weak (by kernel_rfl) ?_; go_big_quiet_step (fail); refine wpQuiet_nil ?_))); refine wpQuiet_nil ?_)
          refine wpSch_done ?_
          (try simp only [List.take_succ_cons, List.take_zero, List.drop_succ_cons, List.drop_zero])
          (refine wpList_sta hS rfl rfl rfl rfl (by simp) (by simp [Value.oneCell']) (by simp) ?_; clear hS; intro w1 hS)
          refine wpList_nil (noPanic_intro ?_)
          go_wp2_with (first | go_skip | go_big_skip | go_big_guard)
          go_meet
          case rel => exact ⟨bE2, ao, cap, bG, rfl, hS.pick [0, 1, 0, 0, 0]⟩
      · refine wpOp_one (by simp) ?_
        (try simp only [List.take_succ_cons, List.take_zero, List.drop_succ_cons, List.drop_zero])
        (refine wpList_alloc hS (t := 25) rfl rfl (by simp; rfl) (vs := [.int .i64 0, .slice none 0 0, .slice none 0 0]) rfl ?_; clear hS; intro bG w1 hS)
        (refine wpList_nil (stepQ_intro ⟨by first | exact hS.oldOnly | exact hS | exact hS.pick [0, 1] | exact hS.pick [1, 1] | exact hS.pick [2, 2] | exact hS.pick [3, 3] | exact hS.pick [4, 4], ?_⟩); go_frame)
        refine ⟨?_, ?_⟩
        · refine wpOp_one (by simp) ?_
          (try simp only [List.take_succ_cons, List.take_zero, List.drop_succ_cons, List.drop_zero])
          (refine wpList_make hS rfl rfl rfl rfl n rfl rfl rfl (bytes := 24) (size := 1) (z := .slice none 0 0) (by rfl) rfl rfl (by omega) (by unfold maxLen; omega) ?_; clear hS; intro bE2 w1 hS)
          (refine wpList_nil (stepQ_intro ⟨by first | exact hS.oldOnly | exact hS | exact hS.pick [0, 1] | exact hS.pick [1, 1] | exact hS.pick [2, 2] | exact hS.pick [3, 3] | exact hS.pick [4, 4], ?_⟩); go_frame)
          refine wpOp_one (by simp) ?_
          (try simp only [List.take_succ_cons, List.take_zero, List.drop_succ_cons, List.drop_zero])
          (refine wpList_app hS (s := .tmp 33) rfl rfl rfl rfl rfl (bytes := 8) (size := 1) (z := .int .i64 0) (by rfl) rfl (by omega) rfl rfl (m := n) (news := O.map (Value.int .i64)) (by rw [List.length_map, HOLN.out, Nat.mul_one]) (fun j u hj => hS.old_cell (HON.out j u hj)) (by simp [Value.oneCell']) (by unfold maxLen; omega) (by omega) ?_; clear hS; intro ao cap w1 hS)
          simp only [List.nil_append, Nat.zero_add] at hS ⊢
          (refine wpList_nil (stepQ_intro ⟨by first | exact hS.oldOnly | exact hS | exact hS.pick [0, 1] | exact hS.pick [1, 1] | exact hS.pick [2, 2] | exact hS.pick [3, 3] | exact hS.pick [4, 4], ?_⟩); go_frame)
          (refine wpSch_row 9 1 (by simp) (by kernel_rfl) (by first | exact hS.oldOnly | exact hS | exact hS.pick [0, 1] | exact hS.pick [1, 1] | exact hS.pick [2, 2] | exact hS.pick [3, 3] | exact hS.pick [4, 4]) ?_; (try simp only [List.take_succ_cons, List.take_zero, List.drop_succ_cons, List.drop_zero]); (repeat (first | (refine wpQuiet_ldl rfl rfl rfl (fun _ => by simp) ?_; go_frame) | (refine wpQuiet_ldo rfl rfl rfl (by with_reducible assumption) (fun _ => by simp) ?_; go_frame) | (refine wpQuiet_weak (by kernel_rfl) ?_; go_big_quiet_step (fail); refine wpQuiet_nil ?_))); refine wpQuiet_nil ?_)
          refine wpSch_done ?_
          (try simp only [List.take_succ_cons, List.take_zero, List.drop_succ_cons, List.drop_zero])
          (refine wpList_sta hS rfl rfl rfl rfl (by simp) (by simp [Value.oneCell']) (by simp) ?_; clear hS; intro w1 hS)
          refine wpList_nil (noPanic_intro ?_)
          go_wp2_with (first | go_skip | go_big_skip | go_big_guard)
          go_meet
          case rel => exact ⟨bE2, ao, cap, bG, rfl, hS.pick [0, 1, 0, 0, 0]⟩
        · refine wpOp_one (by simp) ?_
          (try simp only [List.take_succ_cons, List.take_zero, List.drop_succ_cons, List.drop_zero])
          (refine wpList_app hS (s := .tmp 33) rfl rfl rfl rfl rfl (bytes := 8) (size := 1) (z := .int .i64 0) (by rfl) rfl (by omega) rfl rfl (m := n) (news := O.map (Value.int .i64)) (by rw [List.length_map, HOLN.out, Nat.mul_one]) (fun j u hj => hS.old_cell (HON.out j u hj)) (by simp [Value.oneCell']) (by unfold maxLen; omega) (by omega) ?_; clear hS; intro ao cap w1 hS)
          simp only [List.nil_append, Nat.zero_add] at hS ⊢
          (refine wpList_nil (stepQ_intro ⟨by first | exact hS.oldOnly | exact hS | exact hS.pick [0, 1] | exact hS.pick [1, 1] | exact hS.pick [2, 2] | exact hS.pick [3, 3] | exact hS.pick [4, 4], ?_⟩); go_frame)
          refine wpOp_one (by simp) ?_
          (try simp only [List.take_succ_cons, List.take_zero, List.drop_succ_cons, List.drop_zero])
          (refine wpList_make hS rfl rfl rfl rfl n rfl rfl rfl (bytes := 24) (size := 1) (z := .slice none 0 0) (by rfl) rfl rfl (by omega) (by unfold maxLen; omega) ?_; clear hS; intro bE2 w1 hS)
          (refine wpList_nil (stepQ_intro ⟨by first | exact hS.oldOnly | exact hS | exact hS.pick [0, 1] | exact hS.pick [1, 1] | exact hS.pick [2, 2] | exact hS.pick [3, 3] | exact hS.pick [4, 4], ?_⟩); go_frame)
          (refine wpSch_row 9 1 (by simp) (by kernel_rfl) (by first | exact hS.oldOnly | exact hS | exact hS.pick [0, 1] | exact hS.pick [1, 1] | exact hS.pick [2, 2] | exact hS.pick [3, 3] | exact hS.pick [4, 4]) ?_; (try simp only [List.take_succ_cons, List.take_zero, List.drop_succ_cons, List.drop_zero]); (repeat (first | (refine wpQuiet_ldl rfl rfl rfl (fun _ => by simp) ?_; go_frame) | (refine wpQuiet_ldo rfl rfl rfl (by with_reducible assumption) (fun _ => by simp) ?_; go_frame) | (refine wpQuiet_weak (by kernel_rfl) ?_; go_big_quiet_step (fail); refine wpQuiet_nil ?_))); refine wpQuiet_nil ?_)
          refine wpSch_done ?_
          (try simp only [List.take_succ_cons, List.take_zero, List.drop_succ_cons, List.drop_zero])
          (refine wpList_sta hS rfl rfl rfl rfl (by simp) (by simp [Value.oneCell']) (by simp) ?_; clear hS; intro w1 hS)
          refine wpList_nil (noPanic_intro ?_)
          go_wp2_with (first | go_skip | go_big_skip | go_big_guard)
          go_meet
          case rel => exact ⟨bE2, ao, cap, bG, rfl, hS.pick [0, 1, 0, 0, 0]⟩
    · refine wpOp_one (by simp) ?_
      (try simp only [List.take_succ_cons, List.take_zero, List.drop_succ_cons, List.drop_zero])
      (refine wpList_alloc hS (t := 25) rfl rfl (by simp; rfl) (vs := [.int .i64 0, .slice none 0 0, .slice none 0 0]) rfl ?_; clear hS; intro bG w1 hS)
      (refine wpList_nil (stepQ_intro ⟨by first | exact hS.oldOnly | exact hS | exact hS.pick [0, 1] | exact hS.pick [1, 1] | exact hS.pick [2, 2] | exact hS.pick [3, 3] | exact hS.pick [4, 4], ?_⟩); go_frame)
      refine ⟨?_, ?_⟩
      · refine wpOp_one (by simp) ?_
        (try simp only [List.take_succ_cons, List.take_zero, List.drop_succ_cons, List.drop_zero])
        (refine wpList_make hS rfl rfl rfl rfl n rfl rfl rfl (bytes := 24) (size := 1) (z := .slice none 0 0) (by rfl) rfl rfl (by omega) (by unfold maxLen; omega) ?_; clear hS; intro bE2 w1 hS)
        (refine wpList_nil (stepQ_intro ⟨by first | exact hS.oldOnly | exact hS | exact hS.pick [0, 1] | exact hS.pick [1, 1] | exact hS.pick [2, 2] | exact hS.pick [3, 3] | exact hS.pick [4, 4], ?_⟩); go_frame)
        refine wpOp_one (by simp) ?_
        (try simp only [List.take_succ_cons, List.take_zero, List.drop_succ_cons, List.drop_zero])
        (refine wpList_lit hS (n := 0) rfl rfl (vs := []) (e := 3) (size := 1) (by go_simp) rfl (by unfold maxLen; omega) ?_; clear hS; intro bL w1 hS)
        (refine wpList_nil (stepQ_intro ⟨by first | exact hS.oldOnly | exact hS | exact hS.pick [0, 1] | exact hS.pick [1, 1] | exact hS.pick [2, 2] | exact hS.pick [3, 3] | exact hS.pick [4, 4], ?_⟩); go_frame)
        refine wpOp_one (by simp) ?_
        (try simp only [List.take_succ_cons, List.take_zero, List.drop_succ_cons, List.drop_zero])
        (refine wpList_app hS (s := .tmp 33) rfl rfl rfl rfl rfl (bytes := 8) (size := 1) (z := .int .i64 0) (by rfl) rfl (by omega) rfl rfl (m := n) (news := O.map (Value.int .i64)) (by rw [List.length_map, HOLN.out, Nat.mul_one]) (fun j u hj => hS.old_cell (HON.out j u hj)) (by simp [Value.oneCell']) (by unfold maxLen; omega) (by omega) ?_; clear hS; intro ao cap w1 hS)
        simp only [List.nil_append, Nat.zero_add] at hS ⊢
        (refine wpList_nil (stepQ_intro ⟨by first | exact hS.oldOnly | exact hS | exact hS.pick [0, 1] | exact hS.pick [1, 1] | exact hS.pick [2, 2] | exact hS.pick [3, 3] | exact hS.pick [4, 4], ?_⟩); go_frame)
        (refine wpSch_row 9 1 (by simp) (by kernel_rfl) (by first | exact hS.oldOnly | exact hS | exact hS.pick [0, 1] | exact hS.pick [1, 1] | exact hS.pick [2, 2] | exact hS.pick [3, 3] | exact hS.pick [4, 4]) ?_; (try simp only [List.take_succ_cons, List.take_zero, List.drop_succ_cons, List.drop_zero]); (repeat (first | (refine wpQuiet_ldl rfl rfl rfl (fun _ => by simp) ?_; go_frame) | (refine wpQuiet_ldo rfl rfl rfl (by with_reducible assumption) (fun _ => by simp) ?_; go_frame) | (refine wpQuiet_weak (by kernel_rfl) ?_; go_big_quiet_step (fail); refine wpQuiet_nil ?_))); refine wpQuiet_nil ?_)
        refine wpSch_done ?_
        (try simp only [List.take_succ_cons, List.take_zero, List.drop_succ_cons, List.drop_zero])
        (refine wpList_sta hS rfl rfl rfl rfl (by simp) (by simp [Value.oneCell']) (by simp) ?_; clear hS; intro w1 hS)
        refine wpList_nil (noPanic_intro ?_)
        go_wp2_with (first | go_skip | go_big_skip | go_big_guard)
        go_meet
        case rel => exact ⟨bE2, ao, cap, bG, rfl, hS.pick [1, 0, 0, 0, 0]⟩
      · refine wpOp_one (by simp) ?_
        (try simp only [List.take_succ_cons, List.take_zero, List.drop_succ_cons, List.drop_zero])
        (refine wpList_lit hS (n := 0) rfl rfl (vs := []) (e := 3) (size := 1) (by go_simp) rfl (by unfold maxLen; omega) ?_; clear hS; intro bL w1 hS)
        (refine wpList_nil (stepQ_intro ⟨by first | exact hS.oldOnly | exact hS | exact hS.pick [0, 1] | exact hS.pick [1, 1] | exact hS.pick [2, 2] | exact hS.pick [3, 3] | exact hS.pick [4, 4], ?_⟩); go_frame)
        refine ⟨?_, ?_⟩
        · refine wpOp_one (by simp) ?_
          (try simp only [List.take_succ_cons, List.take_zero, List.drop_succ_cons, List.drop_zero])
          (refine wpList_make hS rfl rfl rfl rfl n rfl rfl rfl (bytes := 24) (size := 1) (z := .slice none 0 0) (by rfl) rfl rfl (by omega) (by unfold maxLen; omega) ?_; clear hS; intro bE2 w1 hS)
          (refine wpList_nil (stepQ_intro ⟨by first | exact hS.oldOnly | exact hS | exact hS.pick [0, 1] | exact hS.pick [1, 1] | exact hS.pick [2, 2] | exact hS.pick [3, 3] | exact hS.pick [4, 4], ?_⟩); go_frame)
          refine wpOp_one (by simp) ?_
          (try simp only [List.take_succ_cons, List.take_zero, List.drop_succ_cons, List.drop_zero])
          (refine wpList_app hS (s := .tmp 33) rfl rfl rfl rfl rfl (bytes := 8) (size := 1) (z := .int .i64 0) (by rfl) rfl (by omega) rfl rfl (m := n) (news := O.map (Value.int .i64)) (by rw [List.length_map, HOLN.out, Nat.mul_one]) (fun j u hj => hS.old_cell (HON.out j u hj)) (by simp [Value.oneCell']) (by unfold maxLen; omega) (by omega) ?_; clear hS; intro ao cap w1 hS)
          simp only [List.nil_append, Nat.zero_add] at hS ⊢
          (refine wpList_nil (stepQ_intro ⟨by first | exact hS.oldOnly | exact hS | exact hS.pick [0, 1] | exact hS.pick [1, 1] | exact hS.pick [2, 2] | exact hS.pick [3, 3] | exact hS.pick [4, 4], ?_⟩); go_frame)
          (refine wpSch_row 9 1 (by simp) (by kernel_rfl) (by first | exact hS.oldOnly | exact hS | exact hS.pick [0, 1] | exact hS.pick [1, 1] | exact hS.pick [2, 2] | exact hS.pick [3, 3] | exact hS.pick [4, 4]) ?_; (try simp only [List.take_succ_cons, List.take_zero, List.drop_succ_cons, List.drop_zero]); (repeat (first | (refine wpQuiet_ldl rfl rfl rfl (fun _ => by simp) ?_; go_frame) | (refine wpQuiet_ldo rfl rfl rfl (by with_reducible assumption) (fun _ => by simp) ?_; go_frame) | (refine wpQuiet_weak (by kernel_rfl) ?_; go_big_quiet_step (fail); refine wpQuiet_nil ?_))); refine wpQuiet_nil ?_)
          refine wpSch_done ?_
          (try simp only [List.take_succ_cons, List.take_zero, List.drop_succ_cons, List.drop_zero])
          (refine wpList_sta hS rfl rfl rfl rfl (by simp) (by simp [Value.oneCell']) (by simp) ?_; clear hS; intro w1 hS)
          refine wpList_nil (noPanic_intro ?_)
          go_wp2_with (first | go_skip | go_big_skip | go_big_guard)
          go_meet
          case rel => exact ⟨bE2, ao, cap, bG, rfl, hS.pick [0, 0, 0, 0, 0]⟩
        · refine wpOp_one (by simp) ?_
          (try simp only [List.take_succ_cons, List.take_zero, List.drop_succ_cons, List.drop_zero])
          (refine wpList_app hS (s := .tmp 33) rfl rfl rfl rfl rfl (bytes := 8) (size := 1) (z := .int .i64 0) (by rfl) rfl (by omega) rfl rfl (m := n) (news := O.map (Value.int .i64)) (by rw [List.length_map, HOLN.out, Nat.mul_one]) (fun j u hj => hS.old_cell (HON.out j u hj)) (by simp [Value.oneCell']) (by unfold maxLen; omega) (by omega) ?_; clear hS; intro ao cap w1 hS)
          simp only [List.nil_append, Nat.zero_add] at hS ⊢
          (refine wpList_nil (stepQ_intro ⟨by first | exact hS.oldOnly | exact hS | exact hS.pick [0, 1] | exact hS.pick [1, 1] | exact hS.pick [2, 2] | exact hS.pick [3, 3] | exact hS.pick [4, 4], ?_⟩); go_frame)
          refine wpOp_one (by simp) ?_
          (try simp only [List.take_succ_cons, List.take_zero, List.drop_succ_cons, List.drop_zero])
          (refine wpList_make hS rfl rfl rfl rfl n rfl rfl rfl (bytes := 24) (size := 1) (z := .slice none 0 0) (by rfl) rfl rfl (by omega) (by unfold maxLen; omega) ?_; clear hS; intro bE2 w1 hS)
          (refine wpList_nil (stepQ_intro ⟨by first | exact hS.oldOnly | exact hS | exact hS.pick [0, 1] | exact hS.pick [1, 1] | exact hS.pick [2, 2] | exact hS.pick [3, 3] | exact hS.pick [4, 4], ?_⟩); go_frame)
          (refine wpSch_row 9 1 (by simp) (by kernel_rfl) (by first | exact hS.oldOnly | exact hS | exact hS.pick [0, 1] | exact hS.pick [1, 1] | exact hS.pick [2, 2] | exact hS.pick [3, 3] | exact hS.pick [4, 4]) ?_; (try simp only [List.take_succ_cons, List.take_zero, List.drop_succ_cons, List.drop_zero]); (repeat (first | (refine wpQuiet_ldl rfl rfl rfl (fun _ => by simp) ?_; go_frame) | (refine wpQuiet_ldo rfl rfl rfl (by with_reducible assumption) (fun _ => by simp) ?_; go_frame) | (refine wpQuiet_weak (by kernel_rfl) ?_; go_big_quiet_step (fail); refine wpQuiet_nil ?_))); refine wpQuiet_nil ?_)
          refine wpSch_done ?_
          (try simp only [List.take_succ_cons, List.take_zero, List.drop_succ_cons, List.drop_zero])
          (refine wpList_sta hS rfl rfl rfl rfl (by simp) (by simp [Value.oneCell']) (by simp) ?_; clear hS; intro w1 hS)
          refine wpList_nil (noPanic_intro ?_)
          go_wp2_with (first | go_skip | go_big_skip | go_big_guard)
          go_meet
          case rel => exact ⟨bE2, ao, cap, bG, rfl, hS.pick [0, 0, 0, 0, 0]⟩
  case rest =>
    clear hS
    obtain ⟨bE2, ao, cap, bG, rfl, hS⟩ := hcut
    have hS1 : Holds w2 [vec (some ⟨bE2, 0, none⟩) n 23 1 ((List.replicate n ((none, 0, []) : Rw)).map Rw.val), rowsP (List.replicate n (none, 0, [])), vec ao cap 3 1 (O.map (Value.int .i64)), blk bG 25 [.int .i64 n, .slice (some ⟨bE2, 0, none⟩) n n, .slice ao n cap], blk b2 25 [.int .i64 n, .slice (some ⟨bE, 0, none⟩) n n, .slice (some ⟨bO, 0, none⟩) n n], old w2] wc := by
      rw [List.map_replicate]
      exact (rows_zero hS n).pick [1, 0, 0, 0, 0, 0]
    clear hS
    have hS := hS1
    clear hS1
    have hrep : ((List.replicate n ((none, 0, []) : Rw)).map (·.2.2)) = List.replicate n [] := by rw [List.map_replicate]
    have HREP := Lib.hid hrep
    clear hrep
    generalize List.replicate n ((none, 0, []) : Rw) = R1 at *
    go_wp2_with (first | go_skip | go_big_skip | go_big_guard)
    go_loopg [12, 13] n (fun kk q p wr => ∃ (i ct : Nat) (R' : List Rw), i ≤ n ∧ kk = n - i ∧ p = .int .i64 i ∧ q = .int .i64 ct ∧ ct ≤ 200 * i ∧ Tw E (R'.map (·.2.2)) n i 0 0 ∧ Holds w2 [vec (some ⟨bE2, 0, none⟩) n 23 1 (R'.map Rw.val), rowsP R', vec ao cap 3 1 (O.map (Value.int .i64)), blk bG 25 [.int .i64 n, .slice (some ⟨bE2, 0, none⟩) n n, .slice ao n cap], blk b2 25 [.int .i64 n, .slice (some ⟨bE, 0, none⟩) n n, .slice (some ⟨bO, 0, none⟩) n n], old w2] wr)
    case atStart => exact ⟨0, 0, R1, Nat.zero_le _, rfl, rfl, rfl, Nat.zero_le _, by rw [HREP.out]; exact Tw.start E n, hS⟩
    case round =>
      clear hS HREP
      obtain ⟨i, ct, R1, hi, rfl, rfl, rfl, hct, htw, hS⟩ := hrel
      have HTW := Lib.hid htw
      clear htw
      by_cases hit : i < n
      · obtain ⟨rw1, hrw⟩ : ∃ r, R[i]? = some r := ⟨R[i]'(by have := HRL.out; omega), by simp⟩
        have cE := HCE.out i rw1 hrw
        have hrow := HR2.out.2 rw1 (List.mem_of_getElem? hrw)
        have hEi : E.getD i [] = rw1.2.2 := by rw [← HR.out]; simp [hrw]
        obtain ⟨ra, rc, rz⟩ := rw1
        simp only [Rw.val] at cE
        dsimp only at hrow hEi
        have hsh : rz.length ≤ 200 := HSH.out rz (by rw [← HR.out]; exact List.mem_map.2 ⟨_, List.mem_of_getElem? hrw, rfl⟩)
        have HROW := Lib.hid hrow
        have HEI := Lib.hid hEi
        clear hrw hrow hEi
        go_wp2_with (first | go_skip | go_big_skip | go_big_guard | (refine wpList_ldl hS rfl rfl rfl (by simp) ?_))
        go_loopg [12, 14] rz.length (fun kk q p wr => ∃ (m ct : Nat) (R' : List Rw), m ≤ rz.length ∧ kk = rz.length - m ∧ p = .int .i64 m ∧ q = .int .i64 ct ∧ ct ≤ 200 * i + m ∧ Tw E (R'.map (·.2.2)) n i m 0 ∧ Holds w2 [vec (some ⟨bE2, 0, none⟩) n 23 1 (R'.map Rw.val), rowsP R', vec ao cap 3 1 (O.map (Value.int .i64)), blk bG 25 [.int .i64 n, .slice (some ⟨bE2, 0, none⟩) n n, .slice ao n cap], blk b2 25 [.int .i64 n, .slice (some ⟨bE, 0, none⟩) n n, .slice (some ⟨bO, 0, none⟩) n n], old w2] wr)
        case atStart => exact ⟨0, ct, R1, Nat.zero_le _, rfl, rfl, rfl, by omega, HTW.out, hS⟩
        case round =>
          clear hS HTW hct
          obtain ⟨m, ct, R1, hm, rfl, rfl, rfl, hct, htw, hS⟩ := hrel
          have HTW := Lib.hid htw
          clear htw
          by_cases hmt : m < rz.length
          · obtain ⟨b', off', rfl, hcc⟩ := HROW.out.at (by rw [List.length_map]; omega)
            have cx : w2.cell? ⟨b', off' + m, none⟩ = some (.int .i64 (rd rz m)) := hcc m _ (map_rd _ hmt)
            clear hcc
            go_upto_if 57 with (first | go_skip | go_big_skip | go_big_guard | (refine wpList_ldl hS rfl rfl rfl (by simp) ?_) | (refine wpList_ldo hS rfl rfl rfl (by with_reducible assumption) (by simp) ?_))
            go_cut [15] from 44 to 90 (fun s wx => ∃ τ : Nat, 1 ≤ τ ∧ τ ≤ 3 ∧ s = .int .i64 τ ∧ wr = wx)
            case first =>
              by_cases hk : ct < many.length
              · obtain ⟨bm, om, rfl, hcm⟩ := HM2.out.at (by rw [List.length_map]; omega)
                have cm : w2.cell? ⟨bm, om + ct, none⟩ = some (.int .u8 (rd many ct)) := hcm ct _ (map_rd _ hk)
                clear hcm
                have hbm : 0 ≤ rd many ct ∧ rd many ct < 256 := by rw [rd_eq hk]; exact HB3.out _ (List.getElem_mem hk)
                obtain ⟨hbm1, hbm2⟩ := hbm
                have hmm1 : 0 ≤ rd many ct % 3 := by omega
                have hmm2 : rd many ct % 3 < 3 := by omega
                go_wp2_with (first | go_skip | go_big_skip | go_big_guard | (refine wpList_ldl hS rfl rfl rfl (by simp) ?_) | (refine wpList_ldo hS rfl rfl rfl (by with_reducible assumption) (by simp) ?_))
                go_meet
                case rel => exact ⟨(1 + rd many ct % 3).toNat, by omega, by omega, by rw [Int.toNat_of_nonneg (by omega)], rfl⟩
              · go_wp2_with (first | go_skip | go_big_skip | go_big_guard | (refine wpList_ldl hS rfl rfl rfl (by simp) ?_) | (refine wpList_ldo hS rfl rfl rfl (by with_reducible assumption) (by simp) ?_))
                go_meet
                case rel => exact ⟨1, by omega, by omega, rfl, rfl⟩
            case rest =>
              obtain ⟨τ, hτ1, hτ2, rfl, rfl⟩ := hcut
              go_wp2_with (first | go_skip | go_big_skip | go_big_guard | (refine wpList_ldl hS rfl rfl rfl (by simp) ?_) | (refine wpList_ldo hS rfl rfl rfl (by with_reducible assumption) (by simp) ?_))
              go_loopg [16] 3 (fun kk p wr => ∃ (t : Nat) (R' : List Rw), t ≤ τ ∧ kk = 3 - t ∧ p = .int .i64 t ∧ Tw E (R'.map (·.2.2)) n i m t ∧ Holds w2 [vec (some ⟨bE2, 0, none⟩) n 23 1 (R'.map Rw.val), rowsP R', vec ao cap 3 1 (O.map (Value.int .i64)), blk bG 25 [.int .i64 n, .slice (some ⟨bE2, 0, none⟩) n n, .slice ao n cap], blk b2 25 [.int .i64 n, .slice (some ⟨bE, 0, none⟩) n n, .slice (some ⟨bO, 0, none⟩) n n], old w2] wr)
              case atStart => exact ⟨0, R1, Nat.zero_le _, rfl, rfl, HTW.out, hS⟩
              case round =>
                clear hS HTW
                obtain ⟨t, R1, ht, rfl, rfl, htw, hS⟩ := hrel
                have hRl : R1.length = n := by have := htw.len; rwa [List.length_map] at this
                have HTW := Lib.hid htw
                clear htw
                by_cases htt : t < τ
                · have hrlk : i < R1.length := by omega
                  obtain ⟨r2, hr2⟩ : ∃ r, R1[i]? = some r := ⟨R1[i], by simp⟩
                  have hgi : (R1.map (·.2.2)).getD i [] = r2.2.2 := by simp [hr2]
                  have hrz2 : r2.2.2.length ≤ 700 := by
                    have h1 := HTW.out.short
                    rw [hgi] at h1
                    omega
                  have hrv : (R1.map Rw.val)[i]? = some (Rw.val r2) := by simp [hr2]
                  have HRL1 := Lib.hid hRl
                  clear hRl
                  have hS1 := rows_take (hS.pick [1, 0, 0, 0, 0, 0]) i hrlk
                  rw [show R1[i] = r2 by have := List.getElem?_eq_getElem hrlk; rw [hr2] at this; exact (Option.some.inj this).symm] at hS1
                  have HRK := Lib.hid hr2
                  have HGI := Lib.hid hgi
                  clear hr2 hS hgi
                  obtain ⟨sa, sc, sz⟩ := r2
                  simp only [Rw.val] at hrv
                  dsimp only at hrz2
                  have hS : Holds w2 [vec sa sc 3 1 (sz.map (Value.int .i64)), rowsP (R1.eraseIdx i), vec (some ⟨bE2, 0, none⟩) n 23 1 (R1.map Rw.val), vec ao cap 3 1 (O.map (Value.int .i64)), blk bG 25 [.int .i64 n, .slice (some ⟨bE2, 0, none⟩) n n, .slice ao n cap], blk b2 25 [.int .i64 n, .slice (some ⟨bE, 0, none⟩) n n, .slice (some ⟨bO, 0, none⟩) n n], old w2] wr := hS1
                  clear hS1
                  have hmid : m < (rz.map (Value.int .i64)).length := by rw [List.length_map]; exact hmt
                  go_wp2_with (first | go_skip | go_big_skip | go_big_guard)
                  refine wp_region_tree (Holds w2 [vec (some ⟨bE2, 0, none⟩) n 23 1 (R1.map Rw.val), blk bG 25 [.int .i64 n, .slice (some ⟨bE2, 0, none⟩) n n, .slice ao n cap], blk b2 25 [.int .i64 n, .slice (some ⟨bE, 0, none⟩) n n, .slice (some ⟨bO, 0, none⟩) n n], old w2]) 18 (.takes (List.range' 0 16) (.one 16 (.one 17 .done))) (by kernel_rfl) (by kernel_rfl) ?_
                  replace hS := hS.drew
                  refine wpSch_row 0 16 (by simp) (by kernel_rfl) (hS.pick [2, 3, 3, 3]) ?_
                  (try simp only [List.take_succ_cons, List.take_zero, List.drop_succ_cons, List.drop_zero])
                  repeat (first | (refine wpQuiet_ldl rfl rfl rfl (fun _ => by simp) ?_; go_frame) | (refine wpQuiet_ldo rfl rfl rfl (by with_reducible assumption) (fun _ => by simp) ?_; go_frame) | (refine wpQuiet_ld rfl rfl rfl (fun _ => by simp) hrv ?_; go_frame) | (refine wpQuiet_weak (by kernel_rfl) ?_; go_big_quiet_step (fail); refine wpQuiet_nil ?_))
                  refine wpQuiet_nil ?_
                  refine wpOp_one (by simp) ?_
                  (try simp only [List.take_succ_cons, List.take_zero, List.drop_succ_cons, List.drop_zero])
                  (refine wpList_lit hS rfl rfl (size := 1) (by go_simp; rfl) rfl (by unfold maxLen; omega) ?_; clear hS; intro bq w1 hS)
                  refine wpList_nil (stepQ_intro ⟨hS.pick [3, 4, 4, 4], ?_⟩)
                  go_frame
                  refine wpOp_one (by simp) ?_
                  (try simp only [List.take_succ_cons, List.take_zero, List.drop_succ_cons, List.drop_zero])
                  have hnews := news_of hS bq
                  have HN := Lib.hid hnews
                  clear hnews
                  refine wpList_app hS (s := .tmp 79) rfl rfl rfl rfl rfl (bytes := 8) (size := 1) (z := .int .i64 0) (by rfl) rfl (by omega) (by simp) rfl (m := 1) (news := [.int .i64 (rd rz m)]) rfl HN.out (by simp [Value.oneCell']) (by unfold maxLen; omega) (by omega) ?_
                  clear hS HN
                  intro ao' cap' w3 hS
                  refine wpList_nil (stepQ_intro ⟨hS.pick [3, 4, 4, 4], ?_⟩)
                  go_frame
                  refine wpSch_done ?_
                  (try simp only [List.take_succ_cons, List.take_zero, List.drop_succ_cons, List.drop_zero])
                  go_wp2_with (first | go_skip | go_big_skip | go_big_guard | (refine wpList_sts hS rfl rfl rfl rfl (by simp) (by simpa using hrlk) ?_; clear hS; intro w1 hS))
                  refine noPanic_intro ?_
                  go_wp2_with (first | go_skip | go_big_skip | go_big_guard)
                  go_roundg (3 - (t + 1))
                  case rel =>
                    refine ⟨t + 1, R1.set i (ao', cap', sz ++ [rd rz m]), by omega, rfl, by go_num, ?_, ?_⟩
                    · have h1 := HTW.out.once (by omega) (by rw [HEI.out]; exact hmt)
                      rw [HGI.out, HEI.out, show rz.getD m 0 = rd rz m from rfl] at h1
                      rw [List.map_set]
                      exact h1
                    · have h := rows_put (r := (ao', cap', sz ++ [rd rz m])) (L := [_, _, _, _, _]) (hS.pick [1, 1, 1, 1, 1, 1, 1]) hrlk
                      have h2 := h.pick [1, 0, 0, 0, 0, 0]
                      have e : (R1.map Rw.val).set i (.slice ao' (sz.length + 1) cap') = (R1.set i (ao', cap', sz ++ [rd rz m])).map Rw.val := by simp [List.map_set, Rw.val]
                      rw [← e]
                      exact h2
                  case measure => omega
                · have htτ : t = τ := by omega
                  go_wp2_with (first | go_skip | go_big_skip | go_big_guard)
                  go_roundg (rz.length - (m + 1))
                  case rel => exact ⟨m + 1, ct + 1, R1, by omega, rfl, by go_num, by go_num, by omega, HTW.out.edge (by omega) (by omega) (by rw [HEI.out]; exact hmt), hS⟩
                  case measure => omega
          · go_wp2_with (first | go_skip | go_big_skip | go_big_guard | (refine wpList_ldl hS rfl rfl rfl (by simp) ?_) | (refine wpList_ldo hS rfl rfl rfl (by with_reducible assumption) (by simp) ?_))
            go_roundg (n - (i + 1))
            case rel =>
              have hml : m = rz.length := by omega
              exact ⟨i + 1, ct, R1, by omega, rfl, by go_num, rfl, by omega, HTW.out.row (by rw [HEI.out]; omega) (by rw [HEI.out]; omega), hS⟩
            case measure => omega
      · obtain rfl : n = i := by omega
        go_upto_region 20 with (first | go_skip | go_big_skip | go_big_guard | (refine wpList_ldal (t := 25) hS rfl rfl rfl (by simp) (Try.sizeOf25 _) ?_) | (refine wpList_ldl hS rfl rfl rfl (by simp) ?_) | (refine wpList_sta hS rfl rfl rfl rfl (by simp) (by simp [Value.oneCell']) (by simp) ?_; clear hS; intro w1 hS) | (refine wpList_alloc hS (t := 25) rfl rfl (by simp; rfl) (vs := [.int .i64 0, .slice none 0 0, .slice none 0 0]) rfl ?_; clear hS; intro bW w1 hS) | (go_at_call 14; refine (HM.out _ (HDN.out.over hS.oldOnly)).mono ?_; rintro e w4 ⟨bE3, bO3, R3, rfl, hR3, hS'⟩; replace hS := graftN [_, _, _] hS hS'; simp only [List.cons_append, List.nil_append] at hS; clear hS'; have HR3 := Lib.hid hR3; clear hR3))
        have HG2 := Lib.hid (HG.out.twice HTW.out HSH.out)
        have H := of_made2 (n := n) (bE := bE) (aO := some ⟨bO, 0, none⟩) (cO := n) (w := w1) (Rows.keep HR2.out hS) (RowAt.keep HO2.out hS) HR.out HG.out
        go_upto_region 21 with (first | go_skip | go_big_skip | go_big_guard | (refine wpList_ldal (t := 25) hS rfl rfl rfl (by simp) (Try.sizeOf25 _) ?_) | (refine wpList_ldl hS rfl rfl rfl (by simp) ?_) | (go_at_call 11; refine H.mono ?_; rintro e w5 ⟨bv, out, rfl, hS', hol, hov⟩; replace hS := hS.graft hS'; clear hS' H; have HOL := Lib.hid hol; have HOV := Lib.hid hov; clear hol hov))
        have H := of_made2 (n := n) (bE := bE2) (aO := ao) (cO := cap) (w := w5) ⟨row_of hS bE2, rowsP_at (hS.pick [6])⟩ (vec_row (hS.pick [7])) rfl HG2.out
        go_upto_region 22 with (first | go_skip | go_big_skip | go_big_guard | (refine wpList_ldal (t := 25) hS rfl rfl rfl (by simp) (Try.sizeOf25 _) ?_) | (refine wpList_ldl hS rfl rfl rfl (by simp) ?_) | (go_at_call 11; refine H.mono ?_; rintro e w6 ⟨bw, out2, rfl, hS', hol, hov⟩; replace hS := hS.graft hS'; clear hS' H; have HOL2 := Lib.hid hol; have HOV2 := Lib.hid hov; clear hol hov))
        have hoo : out2 = out := by
          apply rd_ext (by rw [HOL2.out, HOL.out])
          intro a ha
          have hl := HOL2.out
          rw [HOV2.out a (by omega), HOV.out a (by omega)]
          exact (twice_math (HTW.out.same HG.out.rows) HG2.out.inside HG.out.sol HG2.out.sol a (by omega)).symm
        have HOO := Lib.hid hoo
        clear hoo HOL2 HOV2
        rw [HOO.out] at hS
        clear HOO
        have hS1 : Holds w2 [vec (some ⟨bw, 0, none⟩) n 3 1 (out.map (Value.int .i64)), vec (some ⟨bv, 0, none⟩) n 3 1 (out.map (Value.int .i64)), blk bW 25 [.int .i64 n, .slice (some ⟨bE3, 0, none⟩) n n, .slice (some ⟨bO3, 0, none⟩) n n], vec (some ⟨bE3, 0, none⟩) n 23 1 (R3.map Rw.val), rowsP R3, vec (some ⟨bO3, 0, none⟩) n 3 1 (O.map (Value.int .i64)), blk b2 25 [.int .i64 n, .slice (some ⟨bE, 0, none⟩) n n, .slice (some ⟨bO, 0, none⟩) n n], old w2] w6 := hS.pick [0, 0, 0, 0, 0, 0, 4, 4]
        clear hS
        have hS := hS1
        clear hS1
        have hR3l : R3.length = n := by
          have := congrArg List.length HR3.out
          rwa [List.length_map, HG.out.rows] at this
        have HR3L := Lib.hid hR3l
        clear hR3l
        go_wp2_with (first | go_skip | go_big_skip | go_big_guard)
        go_loopg [22] n (fun kk p wr => ∃ i : Nat, i ≤ n ∧ kk = n - i ∧ p = .int .i64 i ∧ Holds w2 [vec (some ⟨bw, 0, none⟩) n 3 1 (out.map (Value.int .i64)), vec (some ⟨bv, 0, none⟩) n 3 1 (out.map (Value.int .i64)), blk bW 25 [.int .i64 n, .slice (some ⟨bE3, 0, none⟩) n n, .slice (some ⟨bO3, 0, none⟩) n n], vec (some ⟨bE3, 0, none⟩) n 23 1 (R3.map Rw.val), rowsP R3, vec (some ⟨bO3, 0, none⟩) n 3 1 (O.map (Value.int .i64)), blk b2 25 [.int .i64 n, .slice (some ⟨bE, 0, none⟩) n n, .slice (some ⟨bO, 0, none⟩) n n], old w2] wr)
        case atStart => exact ⟨0, Nat.zero_le _, rfl, rfl, hS⟩
        case round =>
          clear hS
          obtain ⟨i, hi, rfl, rfl, hS⟩ := hrel
          by_cases hit : i < n
          · obtain ⟨rw1, hrw⟩ : ∃ r, R[i]? = some r := ⟨R[i]'(by have := HRL.out; omega), by simp⟩
            obtain ⟨rw3, hrw3⟩ : ∃ r, R3[i]? = some r := ⟨R3[i]'(by have := HR3L.out; omega), by simp⟩
            have cE := HCE.out i rw1 hrw
            have hrow := (HR2.out.2 rw1 (List.mem_of_getElem? hrw)).keep hS
            have hrow3 := rowsP_at (hS.pick [4]) rw3 (List.mem_of_getElem? hrw3)
            have hrv3 : (R3.map Rw.val)[i]? = some (Rw.val rw3) := by simp [hrw3]
            have he : rw3.2.2 = rw1.2.2 := by
              have h1 : (R.map (·.2.2))[i]? = some rw1.2.2 := by simp [hrw]
              have h3 : (R3.map (·.2.2))[i]? = some rw3.2.2 := by simp [hrw3]
              rw [HR.out] at h1
              rw [HR3.out, h1] at h3
              exact (Option.some.inj h3).symm
            have hsh : rw1.2.2.length ≤ 200 := HSH.out _ (by rw [← HR.out]; exact List.mem_map.2 ⟨_, List.mem_of_getElem? hrw, rfl⟩)
            clear hrw hrw3
            obtain ⟨ra, rc, rz⟩ := rw1
            obtain ⟨sa, sc, sz⟩ := rw3
            simp only [Rw.val] at cE hrv3
            dsimp only at hrow hrow3 he hsh
            subst he
            have HROW := Lib.hid hrow
            have HROW3 := Lib.hid hrow3
            clear hrow hrow3
            have hsame := fun w1 (h : Holds wr [old wr] w1) => same_self ra sa rc sc sz w1 (HROW.out.keep h) (HROW3.out.keep h) (by unfold maxLen; omega)
            have HSAME := Lib.hid hsame
            clear hsame
            go_wp2_with (first | go_skip | go_big_skip | go_big_guard | (refine wpList_ldl hS rfl rfl rfl (by simp) ?_))
            refine wp_region_tree (Holds w2 [blk bW 25 [.int .i64 n, .slice (some ⟨bE3, 0, none⟩) n n, .slice (some ⟨bO3, 0, none⟩) n n], vec (some ⟨bE3, 0, none⟩) n 23 1 (R3.map Rw.val), blk b2 25 [.int .i64 n, .slice (some ⟨bE, 0, none⟩) n n, .slice (some ⟨bO, 0, none⟩) n n], old w2]) 11 (.takes (List.range' 0 10) (.one 10 .done)) (by kernel_rfl) (by kernel_rfl) ?_
            have HW := Lib.hid (Holds.start wr).drew
            replace hS := hS.drew
            refine wpSch_row 0 10 (by simp) (by kernel_rfl) (hS.pick [2, 2, 4, 4]) ?_
            (try simp only [List.take_succ_cons, List.take_zero, List.drop_succ_cons, List.drop_zero])
            repeat (first | (refine wpQuiet_ldl rfl rfl rfl (fun _ => by simp) ?_; go_frame) | (refine wpQuiet_ldo rfl rfl rfl (by with_reducible assumption) (fun _ => by simp) ?_; go_frame) | (refine wpQuiet_ld rfl rfl rfl (fun _ => by simp) hrv3 ?_; go_frame) | (refine wpQuiet_weak (by kernel_rfl) ?_; go_big_quiet_step (fail); refine wpQuiet_nil ?_))
            refine wpQuiet_nil ?_
            refine wpOp_one (by simp) ?_
            (try simp only [List.take_succ_cons, List.take_zero, List.drop_succ_cons, List.drop_zero])
            go_wp2_with (first | go_skip | go_big_skip | go_big_guard | (go_at_call 13; refine (HSAME.out _ HW.out).mono ?_; rintro e w' ⟨rfl, hS'⟩; replace hS := hS.over hS'; clear hS'))
            refine stepQ_intro ⟨hS.pick [2, 2, 4, 4], ?_⟩
            try go_frame
            refine wpSch_done ?_
            (try simp only [List.take_succ_cons, List.take_zero, List.drop_succ_cons, List.drop_zero])
            go_wp2_with (first | go_skip | go_big_skip | go_big_guard)
            refine noPanic_intro ?_
            go_wp2_with (first | go_skip | go_big_skip | go_big_guard)
            go_roundg (n - (i + 1))
            case rel => exact ⟨i + 1, by omega, rfl, by go_num, hS⟩
            case measure => omega
          · have hbo : (out.length : Nat) = n := HOL.out
            have hOl : O.length = n := HOLN.out
            have H1 : Calls Try.prog 13 #[.slice (some ⟨bv, 0, none⟩) n n, .slice (some ⟨bw, 0, none⟩) n n] wr fun e w' => e = .returned (.bool true) ∧ Holds wr [old wr] w' := by
              have := same_self (some ⟨bv, 0, none⟩) (some ⟨bw, 0, none⟩) n n out wr (row_of hS bv) (row_of hS bw) (by unfold maxLen; omega)
              rwa [hbo] at this
            have H2 : ∀ w1, Holds wr [old wr] w1 → Calls Try.prog 13 #[.slice (some ⟨bO, 0, none⟩) n n, .slice (some ⟨bO3, 0, none⟩) n n] w1 fun e w' => e = .returned (.bool true) ∧ Holds w1 [old w1] w' := fun w1 h => by
              have := same_self (some ⟨bO, 0, none⟩) (some ⟨bO3, 0, none⟩) n n O w1 ((HO2.out.keep hS).keep h) (RowAt.keep (row_of hS bO3) h) (by unfold maxLen; omega)
              rwa [hOl] at this
            have HH2 := Lib.hid H2
            clear hbo hOl H2
            have HW := Lib.hid (Holds.start wr)
            go_wp2_with (first | go_skip | go_big_skip | go_big_guard | (refine wpList_ldl hS rfl rfl rfl (by simp) ?_) | (go_at_call 13; refine H1.mono ?_; rintro e w7 ⟨rfl, hS'⟩; replace hS := hS.over hS'; have HW2 := Lib.hid (HW.out.over hS'); clear hS' H1))
            go_wp2_with (first | go_skip | go_big_skip | go_big_guard | (refine wpList_ldl hS rfl rfl rfl (by simp) ?_) | (go_at_call 13; refine (HH2.out _ HW2.out).mono ?_; rintro e w8 ⟨rfl, hS'⟩; replace hS := hS.over hS'; clear hS'))
            go_ret
            exact ⟨rfl, HDN.out.over hS.oldOnly⟩

end Go.Proofs.Ytecegbgebefheaa
