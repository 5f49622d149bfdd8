/- The Go function VerdictTells returns true: its walk. For all arguments that can be read. -/
import Derived.Test.YtecegbgebefheaaFew
import Derived.Test.YtecegbgebefheaaRof
import Derived.Test.YtecegbgebefheaaShown
set_option linter.unusedSimpArgs false
set_option linter.unusedVariables false
namespace Go.Proofs.Ytecegbgebefheaa
open Go.Sep Go.RowKit

theorem right_conv {N : Int} {E : List (List Int)} {O : List Int} (h : rightB N E O = true) (hs : ∀ e ∈ E, e.length ≤ 1000) : ∃ n : Nat, N = n ∧ Good n E O := by
  unfold rightB at h
  simp only [Bool.and_eq_true, decide_eq_true_eq, Bool.not_eq_true'] at h
  obtain ⟨⟨⟨h0, h1, h2, h3⟩, h4⟩, h5⟩ := h
  refine ⟨E.length, h2.symm, ⟨by omega, rfl, by omega, ?_, ?_, hs⟩⟩
  · intro e he x hx
    rw [List.any_eq_false] at h5
    have := h5 e he
    rw [Bool.not_eq_true, List.any_eq_false] at this
    have := this x hx
    simp [strangeB] at this
    omega
  · intro x hx
    rw [List.all_eq_true] at h4
    simpa [ownB] using h4 x hx

def FewPost2 (w : World) (N : Int) (E : List (List Int)) (O : List Int) (p q : Nat) : Ending → World → Prop :=
  fun e w' => ∃ aE cE R aO cO, e = .returned (.agg #[.int .i64 N, .slice aE p cE, .slice aO q cO]) ∧ R.map (·.2.2) = E ∧
    Holds w [vec aE cE 23 1 (R.map Rw.val), rowsP R, vec aO cO 3 1 (O.map (Value.int .i64)), old w] w'

theorem FewPost.two {w : World} {N : Int} {E : List (List Int)} {O : List Int} {p q : Nat} (hp : E.length = p) (hq : O.length = q) (e : Ending) (w' : World) (h : FewPost w N E O e w') : FewPost2 w N E O p q e w' := by
  subst hp hq
  exact h

theorem of_gen {n : Nat} {aE aO : Option Addr} {cE cO : Nat} {R : List Rw} {E : List (List Int)} {O : List Int} {w : World} (hR : Rows w aE R) (hO : RowAt w aO (O.map (Value.int .i64))) (hE : R.map (·.2.2) = E) (hg : Good n E O) :
    Calls Try.prog 11 #[.agg #[.int .i64 n, .slice aE n cE, .slice aO n cO]] w (OfGood w n (Vd n E O)) := by
  subst hE
  refine of_good n aE aO cE cO R O w hR hO ?_ hg.right hg.small (by simpa using hg.rows) hg.owns hg.inside _ hg.sol
  intro e he
  have := hg.short e.2.2 (List.mem_map_of_mem he)
  unfold maxLen
  omega

theorem rof_gen {n : Nat} {aE aO : Option Addr} {cE cO : Nat} {R : List Rw} {E : List (List Int)} {O : List Int} {w : World} (hR : Rows w aE R) (hO : RowAt w aO (O.map (Value.int .i64))) (hE : R.map (·.2.2) = E) (hg : Good n E O) :
    Calls Try.prog 12 #[.int .i64 n, .slice aE n cE, .slice aO n cO] w (OfGood w n (Vd n E O)) := by
  subst hE
  exact rof_good n aE aO cE cO R O w hR hO hg

set_option maxRecDepth 100000 in
set_option maxHeartbeats 8000000 in
theorem tells_any (N : Int) (aE aO : Option Addr) (cE cO : Nat) (E : List Rw) (O : List Int) (w : World) (hE : Rows w aE E) (hO : RowAt w aO (O.map (Value.int .i64)))
    (hc1 : E.length ≤ cE) (hc2 : ∀ e ∈ E, e.2.2.length ≤ e.2.1 ∧ e.2.1 ≤ maxLen) (hc3 : O.length ≤ cO) (hm1 : cE ≤ maxLen) (hm3 : cO ≤ maxLen) :
    Calls Try.prog 3 #[.agg #[.int .i64 N, .slice aE E.length cE, .slice aO O.length cO]] w fun e w' => e = .returned (.bool true) ∧ Holds w [old w] w' := by
  have hS := Holds.start w
  have hfew := fun w1 (h : Holds w [old w] w1) => few_any N aE aO cE cO E O w1 (hE.keep h) (hO.keep h) hc1 hc2 hc3 hm1 hm3
  have hel : (fewE (E.map (·.2.2))).length ≤ 70 := by simp [fewE]; omega
  have hol : (fewO O).length ≤ 70 := by simp [fewO]; omega
  have hs20 : ∀ e ∈ fewE (E.map (·.2.2)), e.length ≤ 20 := fun e he => by
    obtain ⟨x, _, rfl⟩ := List.mem_map.1 he
    simp; omega
  generalize fewE (E.map (·.2.2)) = E' at *
  generalize fewO O = O' at *
  clear hE hO hc1 hc2 hc3 hm1 hm3
  by_cases hb : rightB N E' O' = true
  · obtain ⟨n, rfl, hg⟩ := right_conv hb (fun e he => by have := hs20 e he; omega)
    have hfew2 := fun w1 h => (hfew w1 h).mono (FewPost.two (p := n) (q := n) hg.rows hg.owns)
    have hnl := hg.small
    have HG := Lib.hid hg
    have HF := Lib.hid hfew2
    clear hfew hfew2 hb hg hel hol hs20
    go_enter Try.func3, Try.ntmps3
    go_upto_region 3 with (first | go_skip | go_big_skip | go_big_guard | (go_at_call 9; refine (shown_any _).mono ?_; rintro e w' ⟨rfl, hS'⟩; replace hS := hS.over hS'; clear hS') | (refine wpList_ldal (t := 25) hS rfl rfl rfl (by simp) (Try.sizeOf25 _) ?_) | (refine wpList_boxa hS rfl rfl rfl ?_; clear hS; intro b1 w1 hS) | (refine wpList_sta hS rfl rfl rfl rfl (by simp) (by simp [Value.oneCell']) (by simp) ?_; clear hS; intro w1 hS) | (go_at_call 10; refine (HF.out _ hS.oldOnly).mono ?_; rintro e w2 ⟨aE', cE', R, aO', cO', rfl, hR, hS'⟩; replace hS := graftN [_, _, _] hS hS'; simp only [List.cons_append, List.nil_append] at hS; clear hS'; have HR := Lib.hid hR; clear hR))
    have H := of_gen (n := n) (cE := cE') (cO := cO') (w := w1) ⟨vec_row hS, rowsP_at (hS.pick [1])⟩ (vec_row (hS.pick [2])) HR.out HG.out
    go_upto_region 4 with (first | go_skip | go_big_skip | go_big_guard | (refine wpList_ldal (t := 25) hS rfl rfl rfl (by simp) (Try.sizeOf25 _) ?_) | (go_at_call 11; refine H.mono ?_; rintro e w5 ⟨bv, out, rfl, hS', hol, hov⟩; replace hS := hS.graft hS'; clear hS' H; have HOL := Lib.hid hol; have HOV := Lib.hid hov; clear hol hov))
    have H := rof_gen (n := n) (cE := cE') (cO := cO') (w := w5) ⟨vec_row (hS.pick [1]), rowsP_at (hS.pick [2])⟩ (vec_row (hS.pick [3])) HR.out HG.out
    go_upto_region 5 with (first | go_skip | go_big_skip | go_big_guard | (refine wpList_ldal (t := 25) hS rfl rfl rfl (by simp) (Try.sizeOf25 _) ?_) | (refine wpList_ldl hS rfl rfl rfl (by simp) ?_) | (go_at_call 12; refine H.mono ?_; rintro e w6 ⟨bw, out2, rfl, hS', hol, hov⟩; replace hS := hS.graft hS'; clear hS' H; have HOL2 := Lib.hid hol; have HOV2 := Lib.hid hov; clear hol hov))
    have hoo : out2 = out := by
      apply rd_ext (by rw [HOL2.out, HOL.out])
      intro a ha
      have hl := HOL2.out
      rw [HOV2.out a (by omega), HOV.out a (by omega)]
    have HOO := Lib.hid hoo
    clear hoo HOL2 HOV2 HOV
    rw [HOO.out] at hS
    clear HOO
    have hbo : out.length = n := HOL.out
    have H1 : Calls Try.prog 13 #[.slice (some ⟨bv, 0, none⟩) n n, .slice (some ⟨bw, 0, none⟩) n n] w6 fun e w' => e = .returned (.bool true) ∧ Holds w6 [old w6] w' := by
      have := same_self (some ⟨bv, 0, none⟩) (some ⟨bw, 0, none⟩) n n out w6 (row_of hS bv) (row_of hS bw) (by unfold maxLen; omega)
      rwa [hbo] at this
    clear hbo HOL
    go_wp2_with (first | go_skip | go_big_skip | go_big_guard | (go_at_call 13; refine H1.mono ?_; rintro e w7 ⟨rfl, hS'⟩; replace hS := hS.over hS'; clear hS' H1))
    go_ret
    exact ⟨rfl, hS.oldOnly⟩
  · have hb' : rightB N E' O' = false := by simpa using hb
    obtain ⟨p, hp⟩ : ∃ p, E'.length = p := ⟨_, rfl⟩
    obtain ⟨q, hq⟩ : ∃ q, O'.length = q := ⟨_, rfl⟩
    have hfew2 := fun w1 h => (hfew w1 h).mono (FewPost.two hp hq)
    have HF := Lib.hid hfew2
    have HB := Lib.hid hb'
    have HP := Lib.hid hp
    have HQ := Lib.hid hq
    have H20 := Lib.hid hs20
    have HP70 := Lib.hid hel
    have HQ70 := Lib.hid hol
    clear hfew hfew2 hb hb' hel hol hs20 hp hq
    go_enter Try.func3, Try.ntmps3
    go_upto_region 3 with (first | go_skip | go_big_skip | go_big_guard | (go_at_call 9; refine (shown_any _).mono ?_; rintro e w' ⟨rfl, hS'⟩; replace hS := hS.over hS'; clear hS') | (refine wpList_ldal (t := 25) hS rfl rfl rfl (by simp) (Try.sizeOf25 _) ?_) | (refine wpList_boxa hS rfl rfl rfl ?_; clear hS; intro b1 w1 hS) | (refine wpList_sta hS rfl rfl rfl rfl (by simp) (by simp [Value.oneCell']) (by simp) ?_; clear hS; intro w1 hS) | (go_at_call 10; refine (HF.out _ hS.oldOnly).mono ?_; rintro e w2 ⟨aE', cE', R, aO', cO', rfl, hR, hS'⟩; replace hS := graftN [_, _, _] hS hS'; simp only [List.cons_append, List.nil_append] at hS; clear hS'; have HR := Lib.hid hR; clear hR))
    have hrl : R.length = p := by
      have := congrArg List.length HR.out
      rwa [List.length_map, HP.out] at this
    have hr20 : ∀ e ∈ R, e.2.2.length ≤ 20 := fun e he => H20.out _ (by rw [← HR.out]; exact List.mem_map_of_mem he)
    have H : ∀ w1, Rows w1 aE' R → RowAt w1 aO' (O'.map (Value.int .i64)) → Calls Try.prog 11 #[.agg #[.int .i64 N, .slice aE' p cE', .slice aO' q cO']] w1 fun e w' => e = .returned (.tuple #[.slice none 0 0, .int .i64 1]) ∧ Holds w1 [old w1] w' := fun w1 h1 h2 => by
      have := of_bad N aE' aO' cE' cO' R O' w1 h1 h2 (fun e he => by have := hr20 e he; unfold maxLen; omega) (by rw [HR.out]; exact HB.out)
      rwa [hrl, HQ.out] at this
    have H2 : ∀ w1, Rows w1 aE' R → RowAt w1 aO' (O'.map (Value.int .i64)) → Calls Try.prog 12 #[.int .i64 N, .slice aE' p cE', .slice aO' q cO'] w1 fun e w' => e = .returned (.tuple #[.slice none 0 0, .int .i64 1]) ∧ w1 = w' := fun w1 h1 h2 => by
      have := rof_bad N aE' aO' cE' cO' R O' w1 h1 h2 (fun e he => by have := hr20 e he; omega) (by have := HP70.out; have := HP.out; omega) (by have := HQ70.out; omega) (by rw [HR.out]; exact HB.out)
      rwa [hrl, HQ.out] at this
    have HH := Lib.hid H
    have HH2 := Lib.hid H2
    clear H H2 hrl hr20
    have H3 : ∀ w1, Calls Try.prog 13 #[.slice none 0 0, .slice none 0 0] w1 fun e w' => e = .returned (.bool true) ∧ Holds w1 [old w1] w' := fun w1 => same_self none none 0 0 [] w1 (.inl rfl) (.inl rfl) (Nat.zero_le _)
    have HH3 := Lib.hid H3
    clear H3
    go_upto_region 4 with (first | go_skip | go_big_skip | go_big_guard | (refine wpList_ldal (t := 25) hS rfl rfl rfl (by simp) (Try.sizeOf25 _) ?_) | (go_at_call 11; refine (HH.out _ ⟨vec_row hS, rowsP_at (hS.pick [1])⟩ (vec_row (hS.pick [2]))).mono ?_; rintro e w5 ⟨rfl, hS'⟩; replace hS := hS.over hS'; clear hS'))
    go_upto_region 5 with (first | go_skip | go_big_skip | go_big_guard | (refine wpList_ldal (t := 25) hS rfl rfl rfl (by simp) (Try.sizeOf25 _) ?_) | (refine wpList_ldl hS rfl rfl rfl (by simp) ?_) | (go_at_call 12; refine (HH2.out _ ⟨vec_row hS, rowsP_at (hS.pick [1])⟩ (vec_row (hS.pick [2]))).mono ?_; rintro e w6 ⟨rfl, rfl⟩))
    go_wp2_with (first | go_skip | go_big_skip | go_big_guard | (go_at_call 13; refine (HH3.out _).mono ?_; rintro e w7 ⟨rfl, hS'⟩; replace hS := hS.over hS'; clear hS'))
    go_ret
    exact ⟨rfl, hS.oldOnly⟩

end Go.Proofs.Ytecegbgebefheaa
