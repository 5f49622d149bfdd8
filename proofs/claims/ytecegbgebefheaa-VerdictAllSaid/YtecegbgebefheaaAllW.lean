/- The Go function VerdictAll returns true: its walk. For all arguments that can be read. -/
import Derived.Test.YtecegbgebefheaaLaw
import Derived.Test.YtecegbgebefheaaAllM
set_option linter.unusedSimpArgs false
set_option linter.unusedVariables false
namespace Go.Proofs.Ytecegbgebefheaa
open Go.Sep Go.RowKit

/-- A load of one cell that is known in the world as it is. -/
theorem wpList_ldw {P : Program} {ops : Array Oper} {Q : Exit → Act → World → Prop} {rest : List Oper} {a : Act} {w : World} {o : Oper} {t : TypeId} {x : Operand} (hop : o.op = .load t x) (hw : Region.wanted o (yielded ops a.tmps) = true) {ad : Addr} (hx : a.eval x = .pointer (some ad)) {v : Value} (hc : w.cell? ad = some v) (hagg : (isAgg t).run P w = .ok false w)
    (h : wpList P ops Q rest (a.put o.dst v) w) : wpList P ops Q (o :: rest) a w := by
  refine BigFrame.wpList_want hw fun K hK => ?_
  unfold Oper.wp execOp
  simp only [hop, hx, Sem.run_bind, run_loadAt_one hagg hc, Result.andThen_ok, Sem.run_pure]
  exact hK _ _ h

def wantI (failed : Bool) : Int := if failed then 6 else 0

theorem Good.put {n k : Nat} {E : List (List Int)} {O : List Int} (h : Good n E O) {v : Int} (hv : v = 0 ∨ v = 5 ∨ v = 6) : Good n E (O.set k v) where
  small := h.small
  rows := h.rows
  owns := by rw [List.length_set]; exact h.owns
  inside := h.inside
  own := fun x hx => by
    rcases List.mem_or_eq_of_mem_set hx with h1 | rfl
    · exact h.own x h1
    · exact hv
  short := h.short

theorem Good.fives {n : Nat} {E : List (List Int)} {O : List Int} (h : Good n E O) : Good n E (List.replicate n 5) where
  small := h.small
  rows := h.rows
  owns := by simp
  inside := h.inside
  own := fun x hx => by simp only [List.mem_replicate] at hx; exact .inr (.inl hx.2)
  short := h.short

set_option maxRecDepth 100000 in
set_option maxHeartbeats 40000000 in
theorem all_any (n0 : Int) (aE : Option Addr) (one : Int) (failed : Bool) (cE : Nat) (es : List (Int × Int)) (w : World) (hE : PairAt w aE es)
    (hb1 : ∀ p ∈ es, 0 ≤ p.1 ∧ p.1 < 256 ∧ 0 ≤ p.2 ∧ p.2 < 256) (hm1 : es.length ≤ maxLen) :
    Calls Try.prog 8 #[.int .i64 n0, .slice aE es.length cE, .int .i64 one, .bool failed] w fun e w' => e = .returned (.bool true) ∧ Holds w [old w] w' := by
  obtain ⟨n, hn⟩ : ∃ n, n = pickOf n0 65 := ⟨_, rfl⟩
  have hnl : n < 65 := by rw [hn]; exact pickOf_lt n0 65 (by omega)
  have hg := (Good.made (n := n) es [] hnl)
  have HG5 := Lib.hid hg.fives
  have HG := Lib.hid hg
  have hmade := fun w1 (h : Holds w [old w] w1) => made_any n0 n aE none cE 0 es [] w1 hn (by
    rcases hE with h0 | ⟨b, off, e, hc⟩
    · exact .inl h0
    · exact .inr ⟨b, off, e, fun i p hi => ⟨h.old_cell (hc i p hi).1, h.old_cell (hc i p hi).2⟩⟩) (.inl rfl) hb1 (fun x hx => by cases hx) hm1 (Nat.zero_le _)
  have HM := Lib.hid hmade
  clear hmade hE hb1 hm1 hn hg
  have hS := Holds.start w
  have hnn : ((n : Int) != (n : Int)) = false := by simp
  go_enter Try.func8, Try.ntmps8
  go_upto_region 3 with (first | go_skip | go_big_skip | go_big_guard | (refine wpList_ldal (t := 25) hS rfl rfl rfl (by simp) (Try.sizeOf25 _) ?_) | (refine wpList_sta hS rfl rfl rfl rfl (by simp) (by simp [Value.oneCell']) (by simp) ?_; clear hS; intro w1 hS) | (refine wpList_alloc hS (t := 25) rfl rfl (by simp; rfl) (vs := [.int .i64 0, .slice none 0 0, .slice none 0 0]) rfl ?_; clear hS; intro b2 w1 hS) | (go_at_call 9; refine (shown_any _).mono ?_; rintro e w' ⟨rfl, hS'⟩; replace hS := hS.over hS'; clear hS') | (go_at_call 14; refine (HM.out _ hS).mono ?_; rintro e w2 ⟨bE, bO, R, rfl, hR, hS'⟩; replace hS := graftN [_, _, _] hS hS'; simp only [List.cons_append, List.nil_append] at hS; clear hS'; have HR := Lib.hid hR; clear hR))
  have hol : (madeO n []).length = n := madeO_length n []
  have hrl : R.length = n := by
    have := congrArg List.length HR.out
    rwa [List.length_map, madeE_length] at this
  have HRL := Lib.hid hrl
  clear HM hrl
  generalize madeE n (es.take 200) = E at *
  generalize madeO n [] = O0 at *
  have HOL0 := Lib.hid hol
  clear hol
  go_wp2_with (first | go_skip | go_big_skip | go_big_guard)
  go_loopg [11] n (fun kk p wr => ∃ (i : Nat) (O : List Int), i ≤ n ∧ kk = n - i ∧ p = .int .i64 i ∧ O.length = n ∧ (∀ a, a < i → rd O a = 5) ∧ Holds w [blk b2 25 [.int .i64 n, .slice (some ⟨bE, 0, none⟩) n n, .slice (some ⟨bO, 0, none⟩) n n], vec (some ⟨bE, 0, none⟩) n 23 1 (R.map Rw.val), rowsP R, vec (some ⟨bO, 0, none⟩) n 3 1 ((O).map (Value.int .i64)), old w] wr)
  case atStart => exact ⟨0, O0, Nat.zero_le _, rfl, rfl, HOL0.out, fun a ha => by omega, hS⟩
  case round =>
    clear hS HOL0
    obtain ⟨i, O, hi, rfl, rfl, hol, hov, hS⟩ := hrel
    have HOL := Lib.hid hol
    have HOV := Lib.hid hov
    clear hol hov
    by_cases hit : i < n
    · have hiO : i < O.length := by have := HOL.out; omega
      go_wp2_with (first | go_skip | go_big_skip | go_big_guard | (refine wpList_ldl hS rfl rfl rfl (by simp) ?_) | (refine wpList_sti hS rfl rfl rfl rfl (by simp) (by rw [List.length_map]; exact hiO) ?_; clear hS; intro w4 hS))
      go_roundg (n - (i + 1))
      case rel =>
        refine ⟨i + 1, O.set i 5, by omega, rfl, by go_num, by rw [List.length_set]; exact HOL.out, fun a ha => ?_, hS⟩
        rw [rd_set hiO]
        split
        · rfl
        · exact HOV.out a (by omega)
      case measure => omega
    · obtain rfl : n = i := by omega
      have e5 : O = List.replicate n 5 := by
        apply rd_ext (by rw [HOL.out]; simp)
        intro a ha
        have hl := HOL.out
        rw [HOV.out a (by omega)]
        simp [rd, show a < n by omega]
      have HO5 := Lib.hid e5
      clear HOL HOV
      rw [HO5.out] at hS
      clear e5 HO5
      have H := of_made (n := n) (bE := bE) (bO := bO) (w := wr) ⟨row_of hS bE, rowsP_at (hS.pick [2])⟩ (row_of hS bO) HR.out HG5.out
      go_upto_region 10 with (first | go_skip | go_big_skip | go_big_guard | (refine wpList_ldal (t := 25) hS rfl rfl rfl (by simp) (Try.sizeOf25 _) ?_) | (refine wpList_ldl hS rfl rfl rfl (by simp) ?_) | (go_at_call 11; refine H.mono ?_; rintro e w5 ⟨bv, out, rfl, hS', hol, hov⟩; replace hS := hS.graft hS'; clear hS' H; have HOL := Lib.hid hol; have HOV := Lib.hid hov; clear hol hov))
      have hval : ∀ i, i < n → (out.map (Value.int .i64))[i]? = some (.int .i64 (Vd n E (List.replicate n 5) i)) := fun i h => by
        rw [← HOV.out i h]
        exact map_rd _ (by rw [HOL.out]; exact h)
      have HVAL := Lib.hid hval
      clear hval HOL HOV
      go_wp2_with (first | go_skip | go_big_skip | go_big_guard)
      go_loopg [14] n (fun kk p wr => ∃ i : Nat, i ≤ n ∧ kk = n - i ∧ p = .int .i64 i ∧ Holds w [vec (some ⟨bv, 0, none⟩) n 3 1 (out.map (Value.int .i64)), blk b2 25 [.int .i64 n, .slice (some ⟨bE, 0, none⟩) n n, .slice (some ⟨bO, 0, none⟩) n n], vec (some ⟨bE, 0, none⟩) n 23 1 (R.map Rw.val), rowsP R, vec (some ⟨bO, 0, none⟩) n 3 1 ((List.replicate n (5 : Int)).map (Value.int .i64)), old w] wr)
      case atStart => exact ⟨0, Nat.zero_le _, rfl, rfl, hS⟩
      case round =>
        clear hS
        obtain ⟨i, hi, rfl, rfl, hS⟩ := hrel
        by_cases hit : i < n
        · have hv := HVAL.out i hit
          have h57 := all_one HG.out.inside HG5.out.sol i hit
          rcases h57 with h57 | h57
          all_goals
            rw [h57] at hv
            clear h57
            go_wp2_with (first | go_skip | go_big_skip | go_big_guard | (refine wpList_ldl hS rfl rfl rfl (by simp) ?_) | (refine wpList_ld hS rfl rfl rfl (by simp) hv ?_))
            go_roundg (n - (i + 1))
            case rel => exact ⟨i + 1, by omega, rfl, by go_num, hS⟩
            case measure => omega
        · by_cases h0 : n = 0
          · have hz : ((n : Int) == 0) = true := by simpa using h0
            have H0 := Lib.hid h0
            clear h0
            go_wp2_with (first | go_skip | go_big_skip | go_big_guard | (refine wpList_ldl hS rfl rfl rfl (by simp) ?_))
            go_ret
            exact ⟨rfl, hS.oldOnly⟩
          have hz : ((n : Int) == 0) = false := by simpa using h0
          have hpos : 0 < n := by omega
          have hnI : (0 : Int) < (n : Int) := by omega
          clear h0
          obtain ⟨hk1, hk2⟩ := mask16 one
          obtain ⟨k, hk⟩ : ∃ k, k = pickOf one n := ⟨_, rfl⟩
          have hk3 : bits BinOp.and IntKind.i64 one 65535 % (n : Int) = (k : Int) := by rw [hk]; exact pickOf_eq one n hpos
          have hkn : k < n := by rw [hk]; exact pickOf_lt one n hpos
          clear hk
          have HK3 := Lib.hid hk3
          clear hk3
          go_upto_region 18 with (first | go_skip | go_big_skip | go_big_guard | (refine wpList_ldl hS rfl rfl rfl (by simp) ?_))
          simp only [HK3.out]
          go_upto_if 80 with (first | go_skip | go_big_skip | go_big_guard)
          go_cut [16] from 81 (fun s wx => s = .int .i64 (wantI failed) ∧ wr = wx)
          case first =>
            cases failed
            all_goals
              go_wp2_with (first | go_skip | go_big_skip | go_big_guard)
              go_meet
              case rel => exact ⟨rfl, rfl⟩
          case rest =>
            obtain ⟨rfl, rfl⟩ := hcut
            have hwant : wantI failed = 0 ∨ wantI failed = 6 := by cases failed <;> simp [wantI]
            have HW := Lib.hid hwant
            clear hwant
            have hk5 : k < (List.replicate n (5 : Int)).length := by simpa using hkn
            generalize wantI failed = want at *
            have HG2 := Lib.hid (HG5.out.put (k := k) (v := want) (HW.out.elim .inl fun h => .inr (.inr h)))
            go_upto_region 22 with (first | go_skip | go_big_skip | go_big_guard | (refine wpList_ldal (t := 25) hS rfl rfl rfl (by simp) (Try.sizeOf25 _) ?_) | (refine wpList_ldl hS rfl rfl rfl (by simp) ?_) | (refine wpList_sti hS rfl rfl rfl rfl (by simp) (by rw [List.length_map]; exact hk5) ?_; clear hS; intro w6 hS))
            have H := of_made (n := n) (bE := bE) (bO := bO) (w := w6) ⟨row_of hS bE, rowsP_at (hS.pick [3])⟩ (row_of hS bO) HR.out HG2.out
            go_upto_region 25 with (first | go_skip | go_big_skip | go_big_guard | (refine wpList_ldal (t := 25) hS rfl rfl rfl (by simp) (Try.sizeOf25 _) ?_) | (refine wpList_ldl hS rfl rfl rfl (by simp) ?_) | (go_at_call 11; refine H.mono ?_; rintro e w7 ⟨bw, out2, rfl, hS', hol, hov⟩; replace hS := hS.graft hS'; clear hS' H; have HOL := Lib.hid hol; have HOV := Lib.hid hov; clear hol hov))
            have hval : ∀ i, i < n → (out2.map (Value.int .i64))[i]? = some (.int .i64 (Vd n E ((List.replicate n 5).set k want) i)) := fun i h => by
              rw [← HOV.out i h]
              exact map_rd _ (by rw [HOL.out]; exact h)
            have HVAL2 := Lib.hid hval
            clear hval HOL HOV
            go_upto_region 27 with (first | go_skip | go_big_skip | go_big_guard | (refine wpList_ldl hS rfl rfl rfl (by simp) ?_) | (at_make; refine wpList_make hS rfl rfl rfl rfl n rfl rfl rfl (bytes := 1) (size := 1) (z := .bool false) (by rfl) rfl rfl (by omega) (by unfold maxLen; omega) ?_; clear hS; intro bz w8 hS; rw [show List.replicate n (Value.bool false) = (List.replicate n false).map Value.bool from (List.map_replicate).symm] at hS) | (refine wpList_stb hS rfl rfl rfl rfl (by simp) (by simpa using hkn) ?_; clear hS; intro w9 hS))
            have hout := POut.start (E := E) hkn
            generalize (List.replicate n false).set k true = Z at hS hout
            have HOUT := Lib.hid hout
            clear hout
            go_wp2_with (first | go_skip | go_big_skip | go_big_guard)
            go_loopg [20] n (fun kk p wr => ∃ (r : Nat) (Z : List Bool), r ≤ n ∧ kk = n - r ∧ p = .int .i64 r ∧ POut E n k r Z ∧ Holds w [vec (some ⟨bz, 0, none⟩) n 4 1 (Z.map Value.bool), vec (some ⟨bw, 0, none⟩) n 3 1 (out2.map (Value.int .i64)), vec (some ⟨bv, 0, none⟩) n 3 1 (out.map (Value.int .i64)), blk b2 25 [.int .i64 n, .slice (some ⟨bE, 0, none⟩) n n, .slice (some ⟨bO, 0, none⟩) n n], vec (some ⟨bE, 0, none⟩) n 23 1 (R.map Rw.val), rowsP R, vec (some ⟨bO, 0, none⟩) n 3 1 (((List.replicate n (5 : Int)).set k want).map (Value.int .i64)), old w] wr)
            case atStart => exact ⟨0, Z, Nat.zero_le _, rfl, rfl, HOUT.out, hS⟩
            case round =>
              clear hS HOUT
              obtain ⟨r, Z0, hr, rfl, rfl, hout, hS⟩ := hrel
              have HOUT := Lib.hid hout
              clear hout
              by_cases hrt : r < n
              · go_wp2_with (first | go_skip | go_big_skip | go_big_guard | (refine wpList_ldl hS rfl rfl rfl (by simp) ?_))
                go_loopg [21] n (fun kk p wr => ∃ (j : Nat) (Z : List Bool), j ≤ n ∧ kk = n - j ∧ p = .int .i64 j ∧ PRnd E n k Z0 j Z ∧ Holds w [vec (some ⟨bz, 0, none⟩) n 4 1 (Z.map Value.bool), vec (some ⟨bw, 0, none⟩) n 3 1 (out2.map (Value.int .i64)), vec (some ⟨bv, 0, none⟩) n 3 1 (out.map (Value.int .i64)), blk b2 25 [.int .i64 n, .slice (some ⟨bE, 0, none⟩) n n, .slice (some ⟨bO, 0, none⟩) n n], vec (some ⟨bE, 0, none⟩) n 23 1 (R.map Rw.val), rowsP R, vec (some ⟨bO, 0, none⟩) n 3 1 (((List.replicate n (5 : Int)).set k want).map (Value.int .i64)), old w] wr)
                case atStart => exact ⟨0, Z0, Nat.zero_le _, rfl, rfl, HOUT.out.rnd, hS⟩
                case round =>
                  clear hS
                  obtain ⟨j, Z1, hj, rfl, rfl, hrnd, hS⟩ := hrel
                  have HRND := Lib.hid hrnd
                  clear hrnd
                  by_cases hjt : j < n
                  · obtain ⟨rw1, hrw⟩ : ∃ r, R[j]? = some r := ⟨R[j]'(by have := HRL.out; omega), by simp⟩
                    have hEj : E.getD j [] = rw1.2.2 := by rw [← HR.out]; simp [hrw]
                    obtain ⟨ra, rc, rz⟩ := rw1
                    dsimp only at hEj
                    have hin : ∀ m, m < rz.length → 0 ≤ rd rz m ∧ rd rz m < n := fun m hm => HG.out.inside.row j _ (by rw [hEj, rd_eq hm]; exact List.getElem_mem hm)
                    have hsh : rz.length ≤ 1000 := HG.out.short rz (by rw [← HR.out]; exact List.mem_map.2 ⟨_, List.mem_of_getElem? hrw, rfl⟩)
                    have HIN := Lib.hid hin
                    have HEJ := Lib.hid hEj
                    have HRW := Lib.hid hrw
                    clear hrw hin hEj
                    go_wp2_with (first | go_skip | go_big_skip | go_big_guard | (refine wpList_ldl hS rfl rfl rfl (by simp) ?_))
                    go_loopg [22] rz.length (fun kk p wr => ∃ (m : Nat) (Z : List Bool), m ≤ rz.length ∧ kk = rz.length - m ∧ p = .int .i64 m ∧ PRnd E n k Z0 j Z ∧ (∀ x ∈ rz.take m, bt Z x.toNat = true → bt Z j = true) ∧ Holds w [vec (some ⟨bz, 0, none⟩) n 4 1 (Z.map Value.bool), vec (some ⟨bw, 0, none⟩) n 3 1 (out2.map (Value.int .i64)), vec (some ⟨bv, 0, none⟩) n 3 1 (out.map (Value.int .i64)), blk b2 25 [.int .i64 n, .slice (some ⟨bE, 0, none⟩) n n, .slice (some ⟨bO, 0, none⟩) n n], vec (some ⟨bE, 0, none⟩) n 23 1 (R.map Rw.val), rowsP R, vec (some ⟨bO, 0, none⟩) n 3 1 (((List.replicate n (5 : Int)).set k want).map (Value.int .i64)), old w] wr)
                    case atStart => exact ⟨0, Z1, Nat.zero_le _, rfl, rfl, HRND.out, fun x hx => (by simp at hx), hS⟩
                    case round =>
                      clear hS HRND
                      obtain ⟨m, Z, hm, rfl, rfl, hrnd, hall, hS⟩ := hrel
                      have HRND := Lib.hid hrnd
                      have HALL := Lib.hid hall
                      clear hrnd hall
                      have cE : wr.cell? ⟨bE, j, none⟩ = some (.slice ra rz.length rc) := hS.cell bE j (by have := HRW.out; simp [this, Rw.val])
                      have hjZ : j < Z.length := by have := HRND.out.len; omega
                      by_cases hmt : m < rz.length
                      · have hrow : RowAt wr ra (rz.map (Value.int .i64)) := rowsP_at (hS.pick [5]) _ (List.mem_of_getElem? HRW.out)
                        obtain ⟨b', off', hra, hcc⟩ := hrow.at (by rw [List.length_map]; omega)
                        have cx : wr.cell? ⟨b', off' + m, none⟩ = some (.int .i64 (rd rz m)) := hcc m _ (map_rd _ hmt)
                        rw [hra] at cE
                        clear hcc hrow hra
                        obtain ⟨hx1, hx2⟩ := HIN.out m hmt
                        obtain ⟨x, hx⟩ : ∃ x : Nat, rd rz m = x := ⟨(rd rz m).toNat, by omega⟩
                        have hmem : rd rz m ∈ E.getD j [] := by rw [HEJ.out, rd_eq hmt]; exact List.getElem_mem hmt
                        have hxt : (rz[m]).toNat = x := by rw [← rd_eq hmt, hx, Int.toNat_natCast]
                        have hmark := HRND.out.mark hjt hmem hx1
                        rw [hx, Int.toNat_natCast] at hmark
                        have hms := marks_succ HALL.out hmt hjZ hxt
                        rw [hx] at cx hx1 hx2
                        have hxn : x < n := by omega
                        have hxZ : x < Z.length := by have := HRND.out.len; omega
                        have hvx : (Z.map Value.bool)[x]? = some (.bool (bt Z x)) := by rw [List.getElem?_map, bt_get hxZ]; rfl
                        have hvj : (Z.map Value.bool)[j]? = some (.bool (bt Z j)) := by rw [List.getElem?_map, bt_get hjZ]; rfl
                        have HMARK := Lib.hid hmark
                        have HMS := Lib.hid hms
                        clear hx hmem hx2 hxt hmark hms
                        by_cases hb : bt Z j = true
                        · rw [hb] at hvj
                          have HB := Lib.hid hb
                          clear hb
                          go_wp2_with (first | go_skip | go_big_skip | go_big_guard | (refine wpList_ldl hS rfl rfl rfl (by simp) ?_) | (refine wpList_ldw rfl rfl rfl (by with_reducible assumption) (by simp) ?_) | (refine wpList_ld hS rfl rfl rfl (by simp) hvj ?_) | (refine wpList_stb hS rfl rfl rfl rfl (by simp) (by simpa using hjZ) ?_; clear hS; intro w4 hS))
                          go_roundg (rz.length - (m + 1))
                          case rel =>
                            have h1 := HMARK.out
                            have h2 := HMS.out
                            rw [HB.out, Bool.true_or] at h1 h2
                            exact ⟨m + 1, Z.set j true, by omega, rfl, by go_num, h1, h2, hS⟩
                          case measure => omega
                        · simp only [Bool.not_eq_true] at hb
                          rw [hb] at hvj
                          have HB := Lib.hid hb
                          clear hb
                          go_wp2_with (first | go_skip | go_big_skip | go_big_guard | (refine wpList_ldl hS rfl rfl rfl (by simp) ?_) | (refine wpList_ldw rfl rfl rfl (by with_reducible assumption) (by simp) ?_) | (refine wpList_ld hS rfl rfl rfl (by simp) hvj ?_) | (refine wpList_ld hS rfl rfl rfl (by simp) hvx ?_) | (refine wpList_stb hS rfl rfl rfl rfl (by simp) (by simpa using hjZ) ?_; clear hS; intro w4 hS))
                          go_roundg (rz.length - (m + 1))
                          case rel =>
                            have h1 := HMARK.out
                            have h2 := HMS.out
                            rw [HB.out, Bool.false_or] at h1 h2
                            exact ⟨m + 1, Z.set j (bt Z x), by omega, rfl, by go_num, h1, h2, hS⟩
                          case measure => omega
                      · go_wp2_with (first | go_skip | go_big_skip | go_big_guard | (refine wpList_ldl hS rfl rfl rfl (by simp) ?_) | (refine wpList_ldw rfl rfl rfl (by with_reducible assumption) (by simp) ?_))
                        go_roundg (n - (j + 1))
                        case rel =>
                          refine ⟨j + 1, Z, by omega, rfl, by go_num, HRND.out.all ?_, hS⟩
                          have := HALL.out
                          rw [List.take_of_length_le (by omega)] at this
                          rw [HEJ.out]
                          exact this
                        case measure => omega
                  · obtain rfl : n = j := by omega
                    go_wp2_with (first | go_skip | go_big_skip | go_big_guard | (refine wpList_ldl hS rfl rfl rfl (by simp) ?_))
                    go_roundg (n - (r + 1))
                    case rel => exact ⟨r + 1, Z1, by omega, rfl, by go_num, HOUT.out.next HG.out.rows HRND.out, hS⟩
                    case measure => omega
              · obtain rfl : n = r := by omega
                have hlaw := fun i hi => all_law HW.out HG.out.inside hkn HG5.out.sol HG2.out.sol HOUT.out i hi
                have hzl := HOUT.out.len
                have HLAW := Lib.hid hlaw
                have HZL := Lib.hid hzl
                clear hlaw hzl HOUT
                go_wp2_with (first | go_skip | go_big_skip | go_big_guard | (refine wpList_ldl hS rfl rfl rfl (by simp) ?_))
                go_loopg [23] n (fun kk p wr => ∃ i : Nat, i ≤ n ∧ kk = n - i ∧ p = .int .i64 i ∧ Holds w [vec (some ⟨bz, 0, none⟩) n 4 1 (Z0.map Value.bool), vec (some ⟨bw, 0, none⟩) n 3 1 (out2.map (Value.int .i64)), vec (some ⟨bv, 0, none⟩) n 3 1 (out.map (Value.int .i64)), blk b2 25 [.int .i64 n, .slice (some ⟨bE, 0, none⟩) n n, .slice (some ⟨bO, 0, none⟩) n n], vec (some ⟨bE, 0, none⟩) n 23 1 (R.map Rw.val), rowsP R, vec (some ⟨bO, 0, none⟩) n 3 1 (((List.replicate n (5 : Int)).set k want).map (Value.int .i64)), old w] wr)
                case atStart => exact ⟨0, Nat.zero_le _, rfl, rfl, hS⟩
                case round =>
                  clear hS
                  obtain ⟨i, hi, rfl, rfl, hS⟩ := hrel
                  by_cases hit : i < n
                  · have hv := HVAL.out i hit
                    have hv2 := HVAL2.out i hit
                    have hl := HLAW.out i hit
                    have hiZ : i < Z0.length := by have := HZL.out; omega
                    have hvz : (Z0.map Value.bool)[i]? = some (.bool (bt Z0 i)) := by rw [List.getElem?_map, bt_get hiZ]; rfl
                    rcases hl with ⟨h1, h2⟩ | ⟨h1, h2⟩
                    all_goals
                      rw [h1] at hv
                      rw [h2] at hv2
                      clear h1 h2
                      by_cases hb : bt Z0 i = true
                      all_goals
                        try simp only [Bool.not_eq_true] at hb
                        rw [hb] at hvz
                        try simp only [hb, if_true, Bool.false_eq_true, if_false] at hv2
                        clear hb
                        go_wp2_with (first | go_skip | go_big_skip | go_big_guard | (refine wpList_ldl hS rfl rfl rfl (by simp) ?_) | (refine wpList_ld hS rfl rfl rfl (by simp) hv ?_) | (refine wpList_ld hS rfl rfl rfl (by simp) hv2 ?_) | (refine wpList_ld hS rfl rfl rfl (by simp) hvz ?_))
                        go_roundg (n - (i + 1))
                        case rel => exact ⟨i + 1, by omega, rfl, by go_num, hS⟩
                        case measure => omega
                  · go_wp2_with (first | go_skip | go_big_skip | go_big_guard | (refine wpList_ldl hS rfl rfl rfl (by simp) ?_))
                    go_ret
                    exact ⟨rfl, hS.oldOnly⟩

end Go.Proofs.Ytecegbgebefheaa
