/- The contract of the reference's Of: for facts that may be, the verdicts; else none, and the error. -/
import Derived.Test.YtecegbgebefheaaRofM
import Derived.Test.YtecegbgebefheaaRRight
import Derived.Test.YtecegbgebefheaaReach
set_option linter.unusedSimpArgs false
set_option linter.unusedVariables false
namespace Go.Proofs.Ytecegbgebefheaa
open Go.Sep Go.RowKit

set_option maxRecDepth 100000 in
set_option maxHeartbeats 8000000 in
theorem rof_bad (N : Int) (aE aO : Option Addr) (cE cO : Nat) (E : List Rw) (O : List Int) (w : World) (hE : Rows w aE E) (hO : RowAt w aO (O.map (Value.int .i64))) (hs : ∀ e ∈ E, e.2.2.length ≤ 1000) (hEl : E.length ≤ 1000) (hOl : O.length ≤ 1000) (hb : rightB N (E.map (·.2.2)) O = false) :
    Calls Try.prog 12 #[.int .i64 N, .slice aE E.length cE, .slice aO O.length cO] w fun e w' => e = .returned (.tuple #[.slice none 0 0, .int .i64 1]) ∧ w = w' := by
  have H := rright_any N aE aO cE cO E O w hE hO hs hEl hOl
  rw [hb] at H
  clear hE hO hs hEl hOl hb
  go_enter Try.func12, Try.ntmps12
  go_wp2_with (first | go_skip | go_big_skip | go_big_guard | (go_at_call 19; refine H.mono ?_; rintro e w' ⟨rfl, rfl⟩))
  go_ret2
  exact ⟨rfl, rfl⟩

set_option maxRecDepth 100000 in
set_option maxHeartbeats 40000000 in
theorem rof_good (n : Nat) (aE aO : Option Addr) (cE cO : Nat) (E : List Rw) (O : List Int) (w : World) (hR : Rows w aE E) (hO : RowAt w aO (O.map (Value.int .i64))) (hg : Good n (E.map (·.2.2)) O) :
    Calls Try.prog 12 #[.int .i64 n, .slice aE n cE, .slice aO n cO] w (OfGood w n (Vd n (E.map (·.2.2)) O)) := by
  have hS := Holds.start w
  have hEl : E.length = n := by simpa using hg.rows
  have hOl : O.length = n := hg.owns
  have hn := hg.small
  have H : Calls Try.prog 19 #[.int .i64 n, .slice aE n cE, .slice aO n cO] w fun e w' => e = .returned (.bool true) ∧ w = w' := by
    have := rright_any n aE aO cE cO E O w hR hO (fun e he => hg.short _ (List.mem_map_of_mem he)) (by omega) (by omega)
    rwa [hEl, hOl, hg.right] at this
  have hreach := fun i (hi : i < n) w1 (h : Rows w1 aE E) => reach_any n i aE cE E w1 h hEl hi hn hg.inside hg.short
  have HRE := Lib.hid hreach
  have HG := Lib.hid hg
  have HR := Lib.hid hR
  have HO := Lib.hid hO
  have HEL := Lib.hid hEl
  have HOL := Lib.hid hOl
  clear hreach hg hR hO hEl hOl
  generalize hEE : E.map (·.2.2) = E' at *
  have HEE := Lib.hid hEE
  clear hEE
  go_enter Try.func12, Try.ntmps12
  go_wp2_with (first | go_skip | go_big_skip | go_big_guard | (go_at_call 19; refine H.mono ?_; rintro e w' ⟨rfl, rfl⟩; clear H) | (refine wpList_make hS (t := 23) rfl rfl rfl rfl n rfl rfl rfl (bytes := 8) (size := 1) (z := .int .i64 0) (by rfl) rfl rfl (by omega) (by unfold maxLen; omega) ?_; clear hS; intro bo w3 hS; rw [show List.replicate n (Value.int .i64 0) = (List.replicate n (0 : Int)).map (Value.int .i64) from (List.map_replicate).symm] at hS) | (refine wpList_make hS (t := 38) rfl rfl rfl rfl n rfl rfl rfl (bytes := 1) (size := 1) (z := .bool false) (by rfl) rfl rfl (by omega) (by unfold maxLen; omega) ?_; clear hS; intro br w4 hS; rw [show List.replicate n (Value.bool false) = (List.replicate n false).map Value.bool from (List.map_replicate).symm] at hS))
  go_loopg [11] n (fun kk p wr => ∃ (i : Nat) (Z : List Bool), i ≤ n ∧ kk = n - i ∧ p = .int .i64 i ∧ Z.length = n ∧ (∀ j, j < i → (bt Z j = true ↔ Way E' j j)) ∧
    Holds w [vec (some ⟨br, 0, none⟩) n 4 1 (Z.map Value.bool), vec (some ⟨bo, 0, none⟩) n 3 1 ((List.replicate n (0 : Int)).map (Value.int .i64)), old w] wr)
  case atStart => exact ⟨0, List.replicate n false, Nat.zero_le _, rfl, rfl, by simp, fun j h => by omega, hS⟩
  case round =>
    clear hS
    obtain ⟨i, Z, hi, rfl, rfl, hzl, hz, hS⟩ := hrel
    have HZL := Lib.hid hzl
    have HZ := Lib.hid hz
    clear hzl hz
    by_cases hit : i < n
    · have hiZ : i < Z.length := by have := HZL.out; omega
      have H := HRE.out i hit wr (HR.out.keep hS)
      go_wp2_with (first | go_skip | go_big_skip | go_big_guard | (go_at_call 20; refine H.mono ?_; rintro e w5 ⟨bq, Y, rfl, hS', hyl, hyw⟩; replace hS := hS.graft hS'; clear hS' H; have HYL := Lib.hid hyl; have HYW := Lib.hid hyw; clear hyl hyw; have hvy : (Y.map Value.bool)[i]? = some (.bool (bt Y i)) := (by rw [List.getElem?_map, bt_get (by have := HYL.out; omega)]; rfl)) | (refine wpList_ld hS rfl rfl rfl (by simp) hvy ?_) | (refine wpList_stb hS rfl rfl rfl rfl (by simp) (by simpa using hiZ) ?_; clear hS; intro w6 hS))
      go_roundg (n - (i + 1))
      case rel =>
        refine ⟨i + 1, Z.set i (bt Y i), by omega, rfl, by go_num, by simpa using HZL.out, fun j hj => ?_, hS.pick [1, 1, 1]⟩
        rw [bt_set hiZ]
        by_cases e : j = i
        · subst e; rw [if_pos rfl]; exact HYW.out j
        · rw [if_neg e]; exact HZ.out j (by omega)
      case measure => omega
    · obtain rfl : n = i := by omega
      go_wp2_with (first | go_skip | go_big_skip | go_big_guard)
      go_loopg [12] n (fun kk p wr => ∃ (i : Nat) (out : List Int), i ≤ n ∧ kk = n - i ∧ p = .int .i64 i ∧ Way1 n E' i false out ∧
        Holds w [vec (some ⟨br, 0, none⟩) n 4 1 (Z.map Value.bool), vec (some ⟨bo, 0, none⟩) n 3 1 (out.map (Value.int .i64)), old w] wr)
      case atStart => exact ⟨0, _, Nat.zero_le _, rfl, rfl, Way1.start n E', hS⟩
      case round =>
        clear hS
        obtain ⟨i, out, hi, rfl, rfl, hw1, hS⟩ := hrel
        have HW1 := Lib.hid hw1
        clear hw1
        by_cases hit : i < n
        · have H := HRE.out i hit wr (HR.out.keep hS)
          go_wp2_with (first | go_skip | go_big_skip | go_big_guard | (go_at_call 20; refine H.mono ?_; rintro e w5 ⟨bq, Y, rfl, hS', hyl, hyw⟩; replace hS := hS.graft hS'; clear hS' H; have HYL := Lib.hid hyl; have HYW := Lib.hid hyw; clear hyl hyw))
          go_loopg [14] n (fun kk p wr => ∃ (k : Nat) (out : List Int), k ≤ n ∧ kk = n - k ∧ p = .int .i64 k ∧ Way1 n E' i (bothB Y Z k) out ∧
            Holds w [vec (some ⟨bq, 0, none⟩) n 4 1 (Y.map Value.bool), vec (some ⟨br, 0, none⟩) n 4 1 (Z.map Value.bool), vec (some ⟨bo, 0, none⟩) n 3 1 (out.map (Value.int .i64)), old w] wr)
          case atStart => exact ⟨0, out, Nat.zero_le _, rfl, rfl, HW1.out, hS⟩
          case round =>
            clear hS HW1
            obtain ⟨k, out, hk, rfl, rfl, hw1, hS⟩ := hrel
            have HW1 := Lib.hid hw1
            clear hw1
            by_cases hkt : k < n
            · have hvy : (Y.map Value.bool)[k]? = some (.bool (bt Y k)) := by rw [List.getElem?_map, bt_get (by have := HYL.out; omega)]; rfl
              have hvz : (Z.map Value.bool)[k]? = some (.bool (bt Z k)) := by rw [List.getElem?_map, bt_get (by have := HZL.out; omega)]; rfl
              have hio : i < out.length := by have := HW1.out.len; omega
              have hsucc := bothB_succ Y Z k
              cases hyb : bt Y k <;> cases hzb : bt Z k
              all_goals
                rw [hyb] at hvy hsucc
                rw [hzb] at hvz hsucc
                have HSU := Lib.hid hsucc
                clear hyb hzb hsucc
                go_wp2_with (first | go_skip | go_big_skip | go_big_guard | (refine wpList_ld hS rfl rfl rfl (by simp) hvy ?_) | (refine wpList_ld hS rfl rfl rfl (by simp) hvz ?_) | (refine wpList_sti hS rfl rfl rfl rfl (by simp) (by rw [List.length_map]; exact hio) ?_; clear hS; intro w6 hS))
                go_roundg (n - (k + 1))
                case rel =>
                  first
                  | exact ⟨k + 1, out, by omega, rfl, by go_num, by rw [HSU.out]; simpa using HW1.out, hS⟩
                  | exact ⟨k + 1, out.set i 7, by omega, rfl, by go_num, by rw [HSU.out]; simpa using HW1.out.mark hit, hS⟩
                case measure => omega
            · obtain rfl : n = k := by omega
              go_wp2_with (first | go_skip | go_big_skip | go_big_guard)
              go_roundg (n - (i + 1))
              case rel => exact ⟨i + 1, out, by omega, rfl, by go_num, HW1.out.next hit (bothB_cyc HG.out.inside HYW.out HZ.out), hS.pick [1, 1, 1]⟩
              case measure => omega
        · obtain rfl : n = i := by omega
          have hw2 := HW1.out.way2 (Vd n E' O)
          have HW2 := Lib.hid hw2
          clear hw2 HW1
          have hS1 := hS.pick [1, 1]
          clear hS
          have hS : Holds w [vec (some ⟨bo, 0, none⟩) n 3 1 (out.map (Value.int .i64)), old w] wr := hS1
          clear hS1
          go_wp2_with (first | go_skip | go_big_skip | go_big_guard)
          go_loopg [15] (zeros out + 1) (fun kk p wr => ∃ (c : Bool) (out : List Int), kk = (if c = true then zeros out + 1 else 0) ∧ p = .bool c ∧ Way2 n E' (Vd n E' O) out ∧ (c = false → ∀ i, i < n → Still E' O out i) ∧ Holds w [vec (some ⟨bo, 0, none⟩) n 3 1 (out.map (Value.int .i64)), old w] wr)
          case atStart => exact ⟨true, out, rfl, rfl, HW2.out, fun h => (by cases h), hS⟩
          case round =>
            clear hS HW2
            obtain ⟨c, out, rfl, rfl, hw2, hst, hS⟩ := hrel
            have HW2 := Lib.hid hw2
            have HST := Lib.hid hst
            clear hw2 hst
            cases c with
            | false =>
              go_wp2_with (first | go_skip | go_big_skip | go_big_guard)
              go_ret2
              exact ⟨bo, out, rfl, hS, HW2.out.len, HW2.out.done HG.out HG.out.sol (HST.out (by trivial))⟩
            | true =>
              clear HST
              go_wp2_with (first | go_skip | go_big_skip | go_big_guard)
              go_loopg [15, 16] n (fun kk p q wr => ∃ (i : Nat) (c : Bool) (out2 : List Int), i ≤ n ∧ kk = n - i ∧ p = .bool c ∧ q = .int .i64 i ∧ Way2 n E' (Vd n E' O) out2 ∧ Pass E' O out i c out2 ∧ Holds w [vec (some ⟨bo, 0, none⟩) n 3 1 (out2.map (Value.int .i64)), old w] wr)
              case atStart => exact ⟨0, false, out, Nat.zero_le _, rfl, rfl, rfl, HW2.out, Pass.start E' O out, hS⟩
              case round =>
                clear hS HW2
                obtain ⟨i, c, out2, hi, rfl, rfl, rfl, hw2, hpass, hS⟩ := hrel
                have HW2 := Lib.hid hw2
                have HPS := Lib.hid hpass
                clear hw2 hpass
                by_cases hit : i < n
                · have hio : i < out2.length := by have := HW2.out.len; omega
                  by_cases h0 : rd out2 i = 0
                  · have h0' : (rd out2 i != 0) = false := by simpa using h0
                    have H0 := Lib.hid h0
                    clear h0
                    obtain ⟨bx, ox, hax, hcx⟩ := HO.out.at (by rw [List.length_map]; have := HOL.out; omega)
                    have co : w.cell? ⟨bx, ox + i, none⟩ = some (.int .i64 (rd O i)) := hcx i _ (map_rd _ (by have := HOL.out; omega))
                    subst hax
                    clear hcx
                    obtain ⟨be, oe, hae, hce⟩ := HR.out.1.at (by rw [List.length_map]; have := HEL.out; omega)
                    obtain ⟨ei, hei⟩ : ∃ e, E[i]? = some e := ⟨E[i]'(by have := HEL.out; omega), by simp⟩
                    have ce : w.cell? ⟨be, oe + i, none⟩ = some (Rw.val ei) := hce i _ (by simp [hei])
                    subst hae
                    clear hce
                    have hrow := HR.out.2 ei (List.mem_of_getElem? hei)
                    have hgi : E'.getD i [] = ei.2.2 := by rw [← HEE.out]; simp [hei]
                    have hlen : ei.2.2.length ≤ 1000 := HG.out.short _ (by rw [← HEE.out]; exact List.mem_map.2 ⟨_, List.mem_of_getElem? hei, rfl⟩)
                    clear hei
                    obtain ⟨ra, rc, rz⟩ := ei
                    simp only [Rw.val] at ce
                    dsimp only at hrow hgi hlen
                    have hin : ∀ m, m < rz.length → 0 ≤ rd rz m ∧ rd rz m < n := fun m hm => HG.out.inside.row i _ (by rw [hgi, rd_eq hm]; exact List.getElem_mem hm)
                    have HIN := Lib.hid hin
                    have HROW := Lib.hid hrow
                    have HGI := Lib.hid hgi
                    clear hrow hgi hin
                    go_wp2_with (first | go_skip | go_big_skip | go_big_guard | (refine wpList_ldi hS rfl rfl rfl (by simp) (by (try simp only [List.length_set]); omega) ?_) | (refine wpList_ldo hS rfl rfl rfl (by with_reducible assumption) (by simp) ?_))
                    go_loopg [17, 18, 19] rz.length (fun kk p q r wr => ∃ (m : Nat) (f d : Bool), m ≤ rz.length ∧ kk = rz.length - m ∧ p = .bool f ∧ q = .bool d ∧ r = .int .i64 m ∧ f = sixB out2 (rd O i) (rz.take m) ∧ d = fiveB out2 (rd O i) (rz.take m) ∧ Holds w [vec (some ⟨bo, 0, none⟩) n 3 1 (out2.map (Value.int .i64)), old w] wr)
                    case atStart => exact ⟨0, _, _, Nat.zero_le _, rfl, rfl, rfl, rfl, by simp [sixB], by simp [fiveB], hS⟩
                    case round =>
                      clear hS
                      obtain ⟨m, f, d, hm, rfl, rfl, rfl, rfl, hf, hd, hS⟩ := hrel
                      have HF := Lib.hid hf
                      have HD := Lib.hid hd
                      clear hf hd
                      by_cases hmt : m < rz.length
                      · obtain ⟨b', off', rfl, hcc⟩ := HROW.out.at (by rw [List.length_map]; omega)
                        have cx : w.cell? ⟨b', off' + m, none⟩ = some (.int .i64 (rd rz m)) := hcc m _ (map_rd _ hmt)
                        clear hcc
                        obtain ⟨hx1, hx2⟩ := HIN.out m hmt
                        obtain ⟨x, hx⟩ : ∃ x : Nat, rd rz m = x := ⟨(rd rz m).toNat, by omega⟩
                        have e1 := sixB_succ out2 (rd O i) rz m hmt
                        have e2 := fiveB_succ out2 (rd O i) rz m hmt
                        rw [← HF.out, hx, Int.toNat_natCast] at e1
                        rw [← HD.out, hx, Int.toNat_natCast] at e2
                        rw [hx] at cx hx1 hx2
                        have hxo : x < out2.length := by have := HW2.out.len; omega
                        have hxn : x < n := by omega
                        have E1 := Lib.hid e1
                        have E2 := Lib.hid e2
                        clear e1 e2 hx HF HD hx2
                        cases f <;> cases d
                        all_goals
                          go_wp2_with (first | go_skip | go_big_skip | go_big_guard | (refine wpList_ldi hS rfl rfl rfl (by simp) (by (try simp only [List.length_set]); omega) ?_) | (refine wpList_ldo hS rfl rfl rfl (by with_reducible assumption) (by simp) ?_))
                          go_roundg (rz.length - (m + 1))
                          case rel => exact ⟨m + 1, _, _, by omega, rfl, rfl, rfl, by go_num, by rw [E1.out]; rfl, by rw [E2.out]; rfl, hS⟩
                          case measure => omega
                      · have hmr : rz.take m = rz := List.take_of_length_le (by omega)
                        have h6 := HF.out
                        have h5 := HD.out
                        rw [hmr, ← HGI.out] at h6 h5
                        have H6 := Lib.hid h6
                        have H5 := Lib.hid h5
                        clear h6 h5 hmr HF HD
                        cases f
                        · cases d
                          · go_wp2_with (first | go_skip | go_big_skip | go_big_guard | (refine wpList_ldi hS rfl rfl rfl (by simp) (by (try simp only [List.length_set]); omega) ?_) | (refine wpList_ldo hS rfl rfl rfl (by with_reducible assumption) (by simp) ?_))
                            go_roundg (n - (i + 1))
                            case rel => exact ⟨i + 1, c, out2, by omega, rfl, rfl, by go_num, HW2.out, HPS.out.still (fun _ => ⟨H6.out.symm, H5.out.symm⟩), hS⟩
                            case measure => omega
                          · go_wp2_with (first | go_skip | go_big_skip | go_big_guard | (refine wpList_ldi hS rfl rfl rfl (by simp) (by (try simp only [List.length_set]); omega) ?_) | (refine wpList_ldo hS rfl rfl rfl (by with_reducible assumption) (by simp) ?_) | (refine wpList_sti hS rfl rfl rfl rfl (by simp) (by (try simp only [List.length_map, List.length_set]); omega) ?_; clear hS; intro w1 hS))
                            go_roundg (n - (i + 1))
                            case rel => exact ⟨i + 1, true, out2.set i 5, by omega, rfl, rfl, by go_num, HW2.out.five HG.out HG.out.sol hit H0.out H5.out.symm, HPS.out.turn hio H0.out (by decide), hS⟩
                            case measure => omega
                        · go_wp2_with (first | go_skip | go_big_skip | go_big_guard | (refine wpList_ldi hS rfl rfl rfl (by simp) (by (try simp only [List.length_set]); omega) ?_) | (refine wpList_ldo hS rfl rfl rfl (by with_reducible assumption) (by simp) ?_) | (refine wpList_sti hS rfl rfl rfl rfl (by simp) (by (try simp only [List.length_map, List.length_set]); omega) ?_; clear hS; intro w1 hS))
                          go_roundg (n - (i + 1))
                          case rel => exact ⟨i + 1, true, out2.set i 6, by omega, rfl, rfl, by go_num, HW2.out.six HG.out HG.out.sol hit H0.out H6.out.symm, HPS.out.turn hio H0.out (by decide), hS⟩
                          case measure => omega
                  · have h0' : (rd out2 i != 0) = true := by simpa using h0
                    have H0 := Lib.hid h0
                    clear h0
                    go_wp2_with (first | go_skip | go_big_skip | go_big_guard | (refine wpList_ldi hS rfl rfl rfl (by simp) (by (try simp only [List.length_set]); omega) ?_))
                    go_roundg (n - (i + 1))
                    case rel => exact ⟨i + 1, c, out2, by omega, rfl, rfl, by go_num, HW2.out, HPS.out.still (fun h => absurd h H0.out), hS⟩
                    case measure => omega
                · obtain rfl : n = i := by omega
                  go_wp2_with (first | go_skip | go_big_skip | go_big_guard)
                  go_roundg (if c = true then zeros out2 + 1 else 0)
                  case rel => exact ⟨c, out2, rfl, rfl, HW2.out, fun hc => by have := HPS.out.2 hc; rw [this.1]; exact this.2, hS⟩
                  case measure =>
                    cases c with
                    | true => have := HPS.out.1 rfl; simp; omega
                    | false => simp

end Go.Proofs.Ytecegbgebefheaa
