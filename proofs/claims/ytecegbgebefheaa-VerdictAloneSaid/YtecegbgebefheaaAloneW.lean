/- The Go function VerdictAlone returns true: its walk. For all arguments that can be read. -/
import Derived.Test.YtecegbgebefheaaLaw
import Derived.Test.YtecegbgebefheaaAloneM
set_option linter.unusedSimpArgs false
set_option linter.unusedVariables false
namespace Go.Proofs.Ytecegbgebefheaa
open Go.Sep Go.RowKit

def nilRw : Rw := (none, 0, [])

def selR (R : List Rw) (Z : List Bool) (n i : Nat) : List Rw := (List.range n).map fun a => if a < i ∧ bt Z a = true then R.getD a nilRw else nilRw
def selO (O : List Int) (Z : List Bool) (n i : Nat) : List Int := (List.range n).map fun a => if a < i ∧ bt Z a = true then O.getD a 0 else 0

theorem selR_zero (R : List Rw) (Z : List Bool) (n : Nat) : selR R Z n 0 = List.replicate n nilRw := by
  apply List.ext_getElem
  · simp [selR]
  · intro i h1 h2
    simp [selR]
theorem selO_zero (O : List Int) (Z : List Bool) (n : Nat) : selO O Z n 0 = List.replicate n 0 := by
  apply List.ext_getElem
  · simp [selO]
  · intro i h1 h2
    simp [selO]
theorem selR_skip (R : List Rw) (Z : List Bool) (n i : Nat) (h : bt Z i = false) : selR R Z n (i + 1) = selR R Z n i := by
  apply List.ext_getElem
  · simp [selR]
  · intro a h1 h2
    simp only [selR, List.getElem_map, List.getElem_range]
    by_cases e : a = i
    · subst e; simp [h]
    · by_cases e2 : a < i
      · simp [e2, show a < i + 1 by omega]
      · simp [e2, show ¬ a < i + 1 by omega]
theorem selO_skip (O : List Int) (Z : List Bool) (n i : Nat) (h : bt Z i = false) : selO O Z n (i + 1) = selO O Z n i := by
  apply List.ext_getElem
  · simp [selO]
  · intro a h1 h2
    simp only [selO, List.getElem_map, List.getElem_range]
    by_cases e : a = i
    · subst e; simp [h]
    · by_cases e2 : a < i
      · simp [e2, show a < i + 1 by omega]
      · simp [e2, show ¬ a < i + 1 by omega]
theorem selR_take (R : List Rw) (Z : List Bool) (n i : Nat) (h : bt Z i = true) {r : Rw} (hr : R[i]? = some r) : selR R Z n (i + 1) = (selR R Z n i).set i r := by
  apply List.ext_getElem
  · simp [selR]
  · intro a h1 h2
    simp only [selR, List.getElem_map, List.getElem_range, List.getElem_set]
    by_cases e : i = a
    · subst e; simp [h, hr]
    · rw [if_neg e]
      by_cases e2 : a < i
      · simp [e2, show a < i + 1 by omega]
      · simp [e2, show ¬ a < i + 1 by omega]
theorem selO_take (O : List Int) (Z : List Bool) (n i : Nat) (h : bt Z i = true) : selO O Z n (i + 1) = (selO O Z n i).set i (rd O i) := by
  apply List.ext_getElem
  · simp [selO]
  · intro a h1 h2
    simp only [selO, List.getElem_map, List.getElem_range, List.getElem_set]
    by_cases e : i = a
    · subst e; simp [h, rd]
    · rw [if_neg e]
      by_cases e2 : a < i
      · simp [e2, show a < i + 1 by omega]
      · simp [e2, show ¬ a < i + 1 by omega]
theorem selR_length (R : List Rw) (Z : List Bool) (n i : Nat) : (selR R Z n i).length = n := by simp [selR]
theorem selO_length (O : List Int) (Z : List Bool) (n i : Nat) : (selO O Z n i).length = n := by simp [selO]

theorem selR_mem {R : List Rw} {Z : List Bool} {n i : Nat} {e : Rw} (h : e ∈ selR R Z n i) : e ∈ R ∨ e = nilRw := by
  simp only [selR, List.mem_map, List.mem_range] at h
  obtain ⟨a, _, rfl⟩ := h
  split
  · by_cases ha : a < R.length
    · left; simp [ha]
    · right; simp [List.getElem?_eq_none (Nat.le_of_not_lt ha)]
  · exact .inr rfl

theorem selR_row (R : List Rw) (Z : List Bool) (n a : Nat) (ha : a < n) (h : bt Z a = true) : ((selR R Z n n).map (·.2.2)).getD a [] = (R.map (·.2.2)).getD a [] := by
  simp [selR, ha, h]
  cases R[a]? <;> rfl

theorem selO_at (O : List Int) (Z : List Bool) (n a : Nat) (ha : a < n) (h : bt Z a = true) : (selO O Z n n).getD a 0 = O.getD a 0 := by
  simp [selO, ha, h]

theorem Good.sel {n : Nat} {R : List Rw} {O : List Int} (h : Good n (R.map (·.2.2)) O) (Z : List Bool) : Good n ((selR R Z n n).map (·.2.2)) (selO O Z n n) where
  small := h.small
  rows := by rw [List.length_map, selR_length]
  owns := selO_length _ _ _ _
  inside := by
    intro e he x hx
    obtain ⟨r, hr, rfl⟩ := List.mem_map.1 he
    rcases selR_mem hr with h1 | rfl
    · exact h.inside _ (List.mem_map_of_mem h1) x hx
    · cases hx
  own := by
    intro x hx
    simp only [selO, List.mem_map, List.mem_range] at hx
    obtain ⟨a, ha, rfl⟩ := hx
    split
    · exact h.at a ha
    · exact .inl rfl
  short := by
    intro e he
    obtain ⟨r, hr, rfl⟩ := List.mem_map.1 he
    rcases selR_mem hr with h1 | rfl
    · exact h.short _ (List.mem_map_of_mem h1)
    · exact Nat.zero_le _

set_option maxRecDepth 100000 in
set_option maxHeartbeats 40000000 in
theorem alone_any (n0 : Int) (aE aO : Option Addr) (task : Int) (cE cO : Nat) (es : List (Int × Int)) (own : List Int) (w : World) (hE : PairAt w aE es) (hO : RowAt w aO (own.map (Value.int .u8)))
    (hb1 : ∀ p ∈ es, 0 ≤ p.1 ∧ p.1 < 256 ∧ 0 ≤ p.2 ∧ p.2 < 256) (hb2 : Bytes own) (hm1 : es.length ≤ maxLen) (hm2 : own.length ≤ maxLen) :
    Calls Try.prog 5 #[.int .i64 n0, .slice aE es.length cE, .slice aO own.length cO, .int .i64 task] w fun e w' => e = .returned (.bool true) ∧ Holds w [old w] w' := by
  obtain ⟨n, hn⟩ : ∃ n, n = pickOf n0 65 := ⟨_, rfl⟩
  have hnl : n < 65 := by rw [hn]; exact pickOf_lt n0 65 (by omega)
  have HG := Lib.hid (Good.made es own hnl)
  have hmade := fun w1 (h : Holds w [old w] w1) => made_any n0 n aE aO cE cO es own w1 hn (by
    rcases hE with h0 | ⟨b, off, e, hc⟩
    · exact .inl h0
    · exact .inr ⟨b, off, e, fun i p hi => ⟨h.old_cell (hc i p hi).1, h.old_cell (hc i p hi).2⟩⟩) (hO.keep h) hb1 hb2 hm1 hm2
  have HM := Lib.hid hmade
  clear hmade hE hO hb1 hb2 hm1 hm2 hn
  have hS := Holds.start w
  by_cases h0 : n = 0
  · have hz : ((n : Int) == 0) = true := by simpa using h0
    have H0 := Lib.hid h0
    clear h0
    go_enter Try.func5, Try.ntmps5
    go_wp2_with (first | go_skip | go_big_skip | go_big_guard | (refine wpList_ldal (t := 25) hS rfl rfl rfl (by simp) (Try.sizeOf25 _) ?_) | (refine wpList_ldl hS rfl rfl rfl (by simp) ?_) | (refine wpList_sta hS rfl rfl rfl rfl (by simp) (by simp [Value.oneCell']) (by simp) ?_; clear hS; intro w1 hS) | (refine wpList_alloc hS (t := 25) rfl rfl (by simp; rfl) (vs := [.int .i64 0, .slice none 0 0, .slice none 0 0]) rfl ?_; clear hS; intro b2 w1 hS) | (go_at_call 9; refine (shown_any _).mono ?_; rintro e w' ⟨rfl, hS'⟩; replace hS := hS.over hS'; clear hS') | (go_at_call 14; refine (HM.out _ hS).mono ?_; rintro e w2 ⟨bE, bO, R, rfl, hR, hS'⟩; replace hS' := graftN [_, _, _] hS hS'; simp only [List.cons_append, List.nil_append] at hS'; have HS := Lib.hid hS'; clear hS hS'; have HR := Lib.hid hR; clear hR; have hS := Holds.start w2))
    go_ret
    exact ⟨rfl, (HS.out.over hS.oldOnly).oldOnly⟩
  have hz : ((n : Int) == 0) = false := by simpa using h0
  have hpos : 0 < n := by omega
  have hnI : (0 : Int) < (n : Int) := by omega
  clear h0
  obtain ⟨hk1, hk2⟩ := mask16 task
  obtain ⟨k, hk⟩ : ∃ k, k = pickOf task n := ⟨_, rfl⟩
  have hk3 : bits BinOp.and IntKind.i64 task 65535 % (n : Int) = (k : Int) := by rw [hk]; exact pickOf_eq task n hpos
  have hkn : k < n := by rw [hk]; exact pickOf_lt task n hpos
  clear hk
  have HK3 := Lib.hid hk3
  clear hk3
  go_enter Try.func5, Try.ntmps5
  go_upto_region 6 with (first | go_skip | go_big_skip | go_big_guard | (refine wpList_ldal (t := 25) hS rfl rfl rfl (by simp) (Try.sizeOf25 _) ?_) | (refine wpList_ldl hS rfl rfl rfl (by simp) ?_) | (refine wpList_sta hS rfl rfl rfl rfl (by simp) (by simp [Value.oneCell']) (by simp) ?_; clear hS; intro w1 hS) | (refine wpList_alloc hS (t := 25) rfl rfl (by simp; rfl) (vs := [.int .i64 0, .slice none 0 0, .slice none 0 0]) rfl ?_; clear hS; intro b2 w1 hS) | (go_at_call 9; refine (shown_any _).mono ?_; rintro e w' ⟨rfl, hS'⟩; replace hS := hS.over hS'; clear hS') | (go_at_call 14; refine (HM.out _ hS).mono ?_; rintro e w2 ⟨bE, bO, R, rfl, hR, hS'⟩; replace hS' := graftN [_, _, _] hS hS'; simp only [List.cons_append, List.nil_append] at hS'; have HS := Lib.hid hS'; clear hS hS'; have HR := Lib.hid hR; clear hR; have hS := Holds.start w2))
  simp only [HK3.out]
  have hR2 : Rows w2 (some ⟨bE, 0, none⟩) R := ⟨row_of HS.out bE, rowsP_at (HS.out.pick [1])⟩
  have hO2 : RowAt w2 (some ⟨bO, 0, none⟩) ((madeO n own).map (Value.int .i64)) := row_of HS.out bO
  have hcE : ∀ i r, R[i]? = some r → w2.cell? ⟨bE, i, none⟩ = some (Rw.val r) := fun i r h => HS.out.cell bE i (by simp [h])
  have hcO : ∀ i, i < n → w2.cell? ⟨bO, i, none⟩ = some (.int .i64 (rd (madeO n own) i)) := fun i h => HS.out.cell bO i (map_rd _ (by rw [madeO_length]; exact h))
  have hrl : R.length = n := by
    have := congrArg List.length HR.out
    rwa [List.length_map, madeE_length] at this
  have HRL := Lib.hid hrl
  have HR2 := Lib.hid hR2
  have HO2 := Lib.hid hO2
  have HCE := Lib.hid hcE
  have HCO := Lib.hid hcO
  have HDN := Lib.hid (HS.out.oldOnly)
  clear hrl hR2 hO2 hcE hcO HS HM hk1 hk2 HK3
  generalize madeO n own = O at *
  generalize madeE n (es.take 200) = E at *
  go_upto_region 8 with (first | go_skip | go_big_skip | go_big_guard | (refine wpList_ldl hS rfl rfl rfl (by simp) ?_) | (at_make; refine wpList_make hS rfl rfl rfl rfl n rfl rfl rfl (bytes := 1) (size := 1) (z := .bool false) (by rfl) rfl rfl (by omega) (by unfold maxLen; omega) ?_; clear hS; intro bz w3 hS; rw [show List.replicate n (Value.bool false) = (List.replicate n false).map Value.bool from (List.map_replicate).symm] at hS) | (refine wpList_stb hS rfl rfl rfl rfl (by simp) (by simpa using hkn) ?_; clear hS; intro w4 hS))
  have hout := Out.start (E := E) hkn
  generalize (List.replicate n false).set k true = Z at hS hout
  have HOUT := Lib.hid hout
  clear hout
  go_wp2_with (first | go_skip | go_big_skip | go_big_guard)
  go_loopg [13] n (fun kk p wr => ∃ (r : Nat) (Z : List Bool), r ≤ n ∧ kk = n - r ∧ p = .int .i64 r ∧ Out E n k r Z ∧
    Holds w2 [vec (some ⟨bz, 0, none⟩) n 4 1 (Z.map Value.bool), blk b2 25 [.int .i64 n, .slice (some ⟨bE, 0, none⟩) n n, .slice (some ⟨bO, 0, none⟩) n n], old w2] wr)
  case atStart => exact ⟨0, Z, Nat.zero_le _, rfl, rfl, HOUT.out, hS⟩
  case round =>
    clear hS HOUT
    obtain ⟨r, Z0, hr, rfl, rfl, hout, hS⟩ := hrel
    have HOUT := Lib.hid hout
    clear hout
    by_cases hrt : r < n
    · go_wp2_with (first | go_skip | go_big_skip | go_big_guard | (refine wpList_ldl hS rfl rfl rfl (by simp) ?_))
      go_loopg [14] n (fun kk p wr => ∃ (j : Nat) (Z : List Bool), j ≤ n ∧ kk = n - j ∧ p = .int .i64 j ∧ Rnd E n Z0 j Z ∧
        Holds w2 [vec (some ⟨bz, 0, none⟩) n 4 1 (Z.map Value.bool), blk b2 25 [.int .i64 n, .slice (some ⟨bE, 0, none⟩) n n, .slice (some ⟨bO, 0, none⟩) n n], old w2] wr)
      case atStart => exact ⟨0, Z0, Nat.zero_le _, rfl, rfl, HOUT.out.rnd, hS⟩
      case round =>
        clear hS
        obtain ⟨j, Z1, hj, rfl, rfl, hrnd, hS⟩ := hrel
        have HRND := Lib.hid hrnd
        clear hrnd
        by_cases hjt : j < n
        · obtain ⟨rw1, hrw⟩ : ∃ r, R[j]? = some r := ⟨R[j]'(by have := HRL.out; omega), by simp⟩
          have cE := HCE.out j rw1 hrw
          have hrow := HR2.out.2 rw1 (List.mem_of_getElem? hrw)
          have hEj : E.getD j [] = rw1.2.2 := by rw [← HR.out]; simp [hrw]
          obtain ⟨ra, rc, rz⟩ := rw1
          simp only [Rw.val] at cE
          dsimp only at hrow hEj
          have hin : ∀ m, m < rz.length → 0 ≤ rd rz m ∧ rd rz m < n := fun m hm => HG.out.inside.row j _ (by rw [hEj, rd_eq hm]; exact List.getElem_mem hm)
          have hsh : rz.length ≤ 1000 := HG.out.short rz (by rw [← HR.out]; exact List.mem_map.2 ⟨_, List.mem_of_getElem? hrw, rfl⟩)
          have HIN := Lib.hid hin
          have HROW := Lib.hid hrow
          have HEJ := Lib.hid hEj
          clear hrw hin hrow hEj
          go_wp2_with (first | go_skip | go_big_skip | go_big_guard | (refine wpList_ldl hS rfl rfl rfl (by simp) ?_))
          go_loopg [15] rz.length (fun kk p wr => ∃ (m : Nat) (Z : List Bool), m ≤ rz.length ∧ kk = rz.length - m ∧ p = .int .i64 m ∧ Rnd E n Z0 j Z ∧ (∀ x ∈ rz.take m, bt Z x.toNat = true) ∧
            Holds w2 [vec (some ⟨bz, 0, none⟩) n 4 1 (Z.map Value.bool), blk b2 25 [.int .i64 n, .slice (some ⟨bE, 0, none⟩) n n, .slice (some ⟨bO, 0, none⟩) n n], old w2] wr)
          case atStart => exact ⟨0, Z1, Nat.zero_le _, rfl, rfl, HRND.out, fun x hx => (by simp at hx), hS⟩
          case round =>
            clear hS HRND
            obtain ⟨m, Z, hm, rfl, rfl, hrnd, hall, hS⟩ := hrel
            have HRND := Lib.hid hrnd
            have HALL := Lib.hid hall
            clear hrnd hall
            have hjZ : j < Z.length := by have := HRND.out.len; omega
            by_cases hz1 : bt Z j = true
            · have hvj : (Z.map Value.bool)[j]? = some (.bool true) := by rw [List.getElem?_map, bt_get hjZ, hz1]; rfl
              have HZ1 := Lib.hid hz1
              clear hz1
              by_cases hmt : m < rz.length
              · obtain ⟨b', off', rfl, hcc⟩ := HROW.out.at (by rw [List.length_map]; omega)
                have cx : w2.cell? ⟨b', off' + m, none⟩ = some (.int .i64 (rd rz m)) := hcc m _ (map_rd _ hmt)
                clear hcc
                obtain ⟨hx1, hx2⟩ := HIN.out m hmt
                obtain ⟨x, hx⟩ : ∃ x : Nat, rd rz m = x := ⟨(rd rz m).toNat, by omega⟩
                have hmem : (x : Int) ∈ E.getD j [] := by rw [HEJ.out, ← hx, rd_eq hmt]; exact List.getElem_mem hmt
                rw [hx] at cx hx1 hx2
                have hxn : x < n := by omega
                have hxZ : x < Z.length := by have := HRND.out.len; omega
                have HX := Lib.hid hx
                have HMEM := Lib.hid hmem
                clear hx hmem hx2
                go_wp2_with (first | go_skip | go_big_skip | go_big_guard | (refine wpList_ldl hS rfl rfl rfl (by simp) ?_) | (refine wpList_ldo hS rfl rfl rfl (by with_reducible assumption) (by simp) ?_) | (refine wpList_ld hS rfl rfl rfl (by simp) hvj ?_) | (refine wpList_stb hS rfl rfl rfl rfl (by simp) (by simpa using hxZ) ?_; clear hS; intro w4 hS))
                go_roundg (rz.length - (m + 1))
                case rel =>
                  refine ⟨m + 1, Z.set x true, by omega, rfl, by go_num, by simpa using HRND.out.mark HZ1.out HMEM.out (by simpa using hxn), ?_, hS⟩
                  intro y hy
                  rw [bt_set hxZ]
                  rw [List.take_succ_eq_append_getElem hmt, List.mem_append, List.mem_singleton] at hy
                  rcases hy with hy | hy
                  · rw [HALL.out y hy]; split <;> rfl
                  · have : y.toNat = x := by rw [hy, ← rd_eq hmt, HX.out, Int.toNat_natCast]
                    rw [if_pos this]
                case measure => omega
              · go_wp2_with (first | go_skip | go_big_skip | go_big_guard | (refine wpList_ldl hS rfl rfl rfl (by simp) ?_) | (refine wpList_ldo hS rfl rfl rfl (by with_reducible assumption) (by simp) ?_) | (refine wpList_ld hS rfl rfl rfl (by simp) hvj ?_))
                go_roundg (n - (j + 1))
                case rel =>
                  refine ⟨j + 1, Z, by omega, rfl, by go_num, HRND.out.all ?_, hS⟩
                  have := HALL.out
                  rw [List.take_of_length_le (by omega)] at this
                  rw [HEJ.out]
                  exact this
                case measure => omega
            · have hz2 : bt Z j = false := by simpa using hz1
              have hvj : (Z.map Value.bool)[j]? = some (.bool false) := by rw [List.getElem?_map, bt_get hjZ, hz2]; rfl
              have HZ2 := Lib.hid hz2
              clear hz1 hz2
              go_wp2_with (first | go_skip | go_big_skip | go_big_guard | (refine wpList_ldl hS rfl rfl rfl (by simp) ?_) | (refine wpList_ldo hS rfl rfl rfl (by with_reducible assumption) (by simp) ?_) | (refine wpList_ld hS rfl rfl rfl (by simp) hvj ?_))
              go_roundg (n - (j + 1))
              case rel => exact ⟨j + 1, Z, by omega, rfl, by go_num, HRND.out.skip HZ2.out, hS⟩
              case measure => omega
        · obtain rfl : n = j := by omega
          go_wp2_with (first | go_skip | go_big_skip | go_big_guard | (refine wpList_ldl hS rfl rfl rfl (by simp) ?_))
          go_roundg (n - (r + 1))
          case rel => exact ⟨r + 1, Z1, by omega, rfl, by go_num, HOUT.out.next HRND.out, hS⟩
          case measure => omega
    · obtain rfl : n = r := by omega
      have hclosed := HOUT.out.closed
      have hhere := HOUT.out.here
      have hzl := HOUT.out.len
      have HCL := Lib.hid hclosed
      have HHE := Lib.hid hhere
      have HZL := Lib.hid hzl
      clear hclosed hhere hzl HOUT
      go_upto_region 18 with (first | go_skip | go_big_skip | go_big_guard | (refine wpList_ldl hS rfl rfl rfl (by simp) ?_))
      go_cut [16] from 80 (fun s wx => ∃ bE2 bO2 bG, s = .pointer (some ⟨bG, 0, none⟩) ∧ Holds w2 [vec (some ⟨bE2, 0, none⟩) n 23 1 (List.replicate n (.slice none 0 0)), vec (some ⟨bO2, 0, none⟩) n 3 1 (List.replicate n (.int .i64 0)), blk bG 25 [.int .i64 n, .slice (some ⟨bE2, 0, none⟩) n n, .slice (some ⟨bO2, 0, none⟩) n n], vec (some ⟨bz, 0, none⟩) n 4 1 (Z0.map Value.bool), blk b2 25 [.int .i64 n, .slice (some ⟨bE, 0, none⟩) n n, .slice (some ⟨bO, 0, none⟩) n n], old w2] wx)
      case first =>
        refine wp_region_tree (Holds w2 [blk b2 25 [.int .i64 n, .slice (some ⟨bE, 0, none⟩) n n, .slice (some ⟨bO, 0, none⟩) n n], old w2]) 10 (.takes (List.range' 0 4) (.takes (List.range' 5 2) (.three 4 7 9 (.two 7 9 (.takes (List.range' 8 1) (.one 9 .done)) (.one 7 (.takes (List.range' 8 1) .done))) (.two 4 9 (.takes (List.range' 8 1) (.one 9 .done)) (.one 4 (.takes (List.range' 8 1) .done))) (.two 4 7 (.one 7 (.takes (List.range' 8 1) .done)) (.one 4 (.takes (List.range' 8 1) .done)))))) (by kernel_rfl) (by kernel_rfl) ?_
        replace hS := hS.drew
        (refine wpSch_row 0 4 (by simp) (by kernel_rfl) (by first | exact hS.oldOnly | exact hS.pick [0, 1] | exact hS.pick [1, 1] | exact hS.pick [2, 2] | exact hS.pick [3, 3] | exact hS.pick [4, 4]) ?_; (try simp only [List.take_succ_cons, List.take_zero, List.drop_succ_cons, List.drop_zero]); (repeat (first | (refine wpQuiet_ldl rfl rfl rfl (fun _ => by simp) ?_; go_frame) | (refine wpQuiet_ldo rfl rfl rfl (by with_reducible assumption) (fun _ => by simp) ?_; go_frame) | (refine wpQuiet_weak (by kernel_rfl) ?_; go_big_quiet_step (fail); refine wpQuiet_nil ?_))); refine wpQuiet_nil ?_)
        (refine wpSch_row 5 2 (by simp) (by kernel_rfl) (by first | exact hS.oldOnly | exact hS.pick [0, 1] | exact hS.pick [1, 1] | exact hS.pick [2, 2] | exact hS.pick [3, 3] | exact hS.pick [4, 4]) ?_; (try simp only [List.take_succ_cons, List.take_zero, List.drop_succ_cons, List.drop_zero]); (repeat (first | (refine wpQuiet_ldl rfl rfl rfl (fun _ => by simp) ?_; go_frame) | (refine wpQuiet_ldo rfl rfl rfl (by with_reducible assumption) (fun _ => by simp) ?_; go_frame) | (refine wpQuiet_weak (by kernel_rfl) ?_; go_big_quiet_step (fail); refine wpQuiet_nil ?_))); refine wpQuiet_nil ?_)
        refine ⟨?_, ?_, ?_⟩
        · refine wpOp_one (by simp) ?_
          (try simp only [List.take_succ_cons, List.take_zero, List.drop_succ_cons, List.drop_zero])
          (refine wpList_make hS rfl rfl rfl rfl n rfl rfl rfl (bytes := 24) (size := 1) (z := .slice none 0 0) (by rfl) rfl rfl (by omega) (by unfold maxLen; omega) ?_; clear hS; intro bE2 w1 hS)
          (refine wpList_nil (stepQ_intro ⟨by first | exact hS.oldOnly | exact hS.pick [0, 1] | exact hS.pick [1, 1] | exact hS.pick [2, 2] | exact hS.pick [3, 3] | exact hS.pick [4, 4], ?_⟩); go_frame)
          refine ⟨?_, ?_⟩
          · refine wpOp_one (by simp) ?_
            (try simp only [List.take_succ_cons, List.take_zero, List.drop_succ_cons, List.drop_zero])
            (refine wpList_make hS rfl rfl rfl rfl n rfl rfl rfl (bytes := 8) (size := 1) (z := .int .i64 0) (by rfl) rfl rfl (by omega) (by unfold maxLen; omega) ?_; clear hS; intro bO2 w1 hS)
            (refine wpList_nil (stepQ_intro ⟨by first | exact hS.oldOnly | exact hS.pick [0, 1] | exact hS.pick [1, 1] | exact hS.pick [2, 2] | exact hS.pick [3, 3] | exact hS.pick [4, 4], ?_⟩); go_frame)
            (refine wpSch_row 8 1 (by simp) (by kernel_rfl) (by first | exact hS.oldOnly | exact hS.pick [0, 1] | exact hS.pick [1, 1] | exact hS.pick [2, 2] | exact hS.pick [3, 3] | exact hS.pick [4, 4]) ?_; (try simp only [List.take_succ_cons, List.take_zero, List.drop_succ_cons, List.drop_zero]); (repeat (first | (refine wpQuiet_ldl rfl rfl rfl (fun _ => by simp) ?_; go_frame) | (refine wpQuiet_ldo rfl rfl rfl (by with_reducible assumption) (fun _ => by simp) ?_; go_frame) | (refine wpQuiet_weak (by kernel_rfl) ?_; go_big_quiet_step (fail); refine wpQuiet_nil ?_))); refine wpQuiet_nil ?_)
            refine wpOp_one (by simp) ?_
            (try simp only [List.take_succ_cons, List.take_zero, List.drop_succ_cons, List.drop_zero])
            (refine wpList_alloc hS (t := 25) rfl rfl (by simp; rfl) (vs := [.int .i64 0, .slice none 0 0, .slice none 0 0]) rfl ?_; clear hS; intro bG w1 hS)
            (refine wpList_nil (stepQ_intro ⟨by first | exact hS.oldOnly | exact hS.pick [0, 1] | exact hS.pick [1, 1] | exact hS.pick [2, 2] | exact hS.pick [3, 3] | exact hS.pick [4, 4], ?_⟩); go_frame)
            refine wpSch_done ?_
            (try simp only [List.take_succ_cons, List.take_zero, List.drop_succ_cons, List.drop_zero])
            (refine wpList_sta hS rfl rfl rfl rfl (by simp) (by simp [Value.oneCell']) (by simp) ?_; clear hS; intro w1 hS)
            refine wpList_nil (noPanic_intro ?_)
            go_wp2_with (first | go_skip | go_big_skip | go_big_guard)
            go_meet
            case rel => exact ⟨bE2, bO2, bG, rfl, hS.pick [2, 1, 0, 0, 0, 0]⟩
          · refine wpOp_one (by simp) ?_
            (try simp only [List.take_succ_cons, List.take_zero, List.drop_succ_cons, List.drop_zero])
            (refine wpList_alloc hS (t := 25) rfl rfl (by simp; rfl) (vs := [.int .i64 0, .slice none 0 0, .slice none 0 0]) rfl ?_; clear hS; intro bG w1 hS)
            (refine wpList_nil (stepQ_intro ⟨by first | exact hS.oldOnly | exact hS.pick [0, 1] | exact hS.pick [1, 1] | exact hS.pick [2, 2] | exact hS.pick [3, 3] | exact hS.pick [4, 4], ?_⟩); go_frame)
            refine wpOp_one (by simp) ?_
            (try simp only [List.take_succ_cons, List.take_zero, List.drop_succ_cons, List.drop_zero])
            (refine wpList_make hS rfl rfl rfl rfl n rfl rfl rfl (bytes := 8) (size := 1) (z := .int .i64 0) (by rfl) rfl rfl (by omega) (by unfold maxLen; omega) ?_; clear hS; intro bO2 w1 hS)
            (refine wpList_nil (stepQ_intro ⟨by first | exact hS.oldOnly | exact hS.pick [0, 1] | exact hS.pick [1, 1] | exact hS.pick [2, 2] | exact hS.pick [3, 3] | exact hS.pick [4, 4], ?_⟩); go_frame)
            (refine wpSch_row 8 1 (by simp) (by kernel_rfl) (by first | exact hS.oldOnly | exact hS.pick [0, 1] | exact hS.pick [1, 1] | exact hS.pick [2, 2] | exact hS.pick [3, 3] | exact hS.pick [4, 4]) ?_; (try simp only [List.take_succ_cons, List.take_zero, List.drop_succ_cons, List.drop_zero]); (repeat (first | (refine wpQuiet_ldl rfl rfl rfl (fun _ => by simp) ?_; go_frame) | (refine wpQuiet_ldo rfl rfl rfl (by with_reducible assumption) (fun _ => by simp) ?_; go_frame) | (refine wpQuiet_weak (by kernel_rfl) ?_; go_big_quiet_step (fail); refine wpQuiet_nil ?_))); refine wpQuiet_nil ?_)
            refine wpSch_done ?_
            (try simp only [List.take_succ_cons, List.take_zero, List.drop_succ_cons, List.drop_zero])
            (refine wpList_sta hS rfl rfl rfl rfl (by simp) (by simp [Value.oneCell']) (by simp) ?_; clear hS; intro w1 hS)
            refine wpList_nil (noPanic_intro ?_)
            go_wp2_with (first | go_skip | go_big_skip | go_big_guard)
            go_meet
            case rel => exact ⟨bE2, bO2, bG, rfl, hS.pick [2, 0, 0, 0, 0, 0]⟩
        · refine wpOp_one (by simp) ?_
          (try simp only [List.take_succ_cons, List.take_zero, List.drop_succ_cons, List.drop_zero])
          (refine wpList_make hS rfl rfl rfl rfl n rfl rfl rfl (bytes := 8) (size := 1) (z := .int .i64 0) (by rfl) rfl rfl (by omega) (by unfold maxLen; omega) ?_; clear hS; intro bO2 w1 hS)
          (refine wpList_nil (stepQ_intro ⟨by first | exact hS.oldOnly | exact hS.pick [0, 1] | exact hS.pick [1, 1] | exact hS.pick [2, 2] | exact hS.pick [3, 3] | exact hS.pick [4, 4], ?_⟩); go_frame)
          refine ⟨?_, ?_⟩
          · refine wpOp_one (by simp) ?_
            (try simp only [List.take_succ_cons, List.take_zero, List.drop_succ_cons, List.drop_zero])
            (refine wpList_make hS rfl rfl rfl rfl n rfl rfl rfl (bytes := 24) (size := 1) (z := .slice none 0 0) (by rfl) rfl rfl (by omega) (by unfold maxLen; omega) ?_; clear hS; intro bE2 w1 hS)
            (refine wpList_nil (stepQ_intro ⟨by first | exact hS.oldOnly | exact hS.pick [0, 1] | exact hS.pick [1, 1] | exact hS.pick [2, 2] | exact hS.pick [3, 3] | exact hS.pick [4, 4], ?_⟩); go_frame)
            (refine wpSch_row 8 1 (by simp) (by kernel_rfl) (by first | exact hS.oldOnly | exact hS.pick [0, 1] | exact hS.pick [1, 1] | exact hS.pick [2, 2] | exact hS.pick [3, 3] | exact hS.pick [4, 4]) ?_; (try simp only [List.take_succ_cons, List.take_zero, List.drop_succ_cons, List.drop_zero]); (repeat (first | (refine wpQuiet_ldl rfl rfl rfl (fun _ => by simp) ?_; go_frame) | (refine wpQuiet_ldo rfl rfl rfl (by with_reducible assumption) (fun _ => by simp) ?_; go_frame) | (refine wpQuiet_weak (by kernel_rfl) ?_; go_big_quiet_step (fail); refine wpQuiet_nil ?_))); refine wpQuiet_nil ?_)
            refine wpOp_one (by simp) ?_
            (try simp only [List.take_succ_cons, List.take_zero, List.drop_succ_cons, List.drop_zero])
            (refine wpList_alloc hS (t := 25) rfl rfl (by simp; rfl) (vs := [.int .i64 0, .slice none 0 0, .slice none 0 0]) rfl ?_; clear hS; intro bG w1 hS)
            (refine wpList_nil (stepQ_intro ⟨by first | exact hS.oldOnly | exact hS.pick [0, 1] | exact hS.pick [1, 1] | exact hS.pick [2, 2] | exact hS.pick [3, 3] | exact hS.pick [4, 4], ?_⟩); go_frame)
            refine wpSch_done ?_
            (try simp only [List.take_succ_cons, List.take_zero, List.drop_succ_cons, List.drop_zero])
            (refine wpList_sta hS rfl rfl rfl rfl (by simp) (by simp [Value.oneCell']) (by simp) ?_; clear hS; intro w1 hS)
            refine wpList_nil (noPanic_intro ?_)
            go_wp2_with (first | go_skip | go_big_skip | go_big_guard)
            go_meet
            case rel => exact ⟨bE2, bO2, bG, rfl, hS.pick [1, 1, 0, 0, 0, 0]⟩
          · refine wpOp_one (by simp) ?_
            (try simp only [List.take_succ_cons, List.take_zero, List.drop_succ_cons, List.drop_zero])
            (refine wpList_alloc hS (t := 25) rfl rfl (by simp; rfl) (vs := [.int .i64 0, .slice none 0 0, .slice none 0 0]) rfl ?_; clear hS; intro bG w1 hS)
            (refine wpList_nil (stepQ_intro ⟨by first | exact hS.oldOnly | exact hS.pick [0, 1] | exact hS.pick [1, 1] | exact hS.pick [2, 2] | exact hS.pick [3, 3] | exact hS.pick [4, 4], ?_⟩); go_frame)
            refine wpOp_one (by simp) ?_
            (try simp only [List.take_succ_cons, List.take_zero, List.drop_succ_cons, List.drop_zero])
            (refine wpList_make hS rfl rfl rfl rfl n rfl rfl rfl (bytes := 24) (size := 1) (z := .slice none 0 0) (by rfl) rfl rfl (by omega) (by unfold maxLen; omega) ?_; clear hS; intro bE2 w1 hS)
            (refine wpList_nil (stepQ_intro ⟨by first | exact hS.oldOnly | exact hS.pick [0, 1] | exact hS.pick [1, 1] | exact hS.pick [2, 2] | exact hS.pick [3, 3] | exact hS.pick [4, 4], ?_⟩); go_frame)
            (refine wpSch_row 8 1 (by simp) (by kernel_rfl) (by first | exact hS.oldOnly | exact hS.pick [0, 1] | exact hS.pick [1, 1] | exact hS.pick [2, 2] | exact hS.pick [3, 3] | exact hS.pick [4, 4]) ?_; (try simp only [List.take_succ_cons, List.take_zero, List.drop_succ_cons, List.drop_zero]); (repeat (first | (refine wpQuiet_ldl rfl rfl rfl (fun _ => by simp) ?_; go_frame) | (refine wpQuiet_ldo rfl rfl rfl (by with_reducible assumption) (fun _ => by simp) ?_; go_frame) | (refine wpQuiet_weak (by kernel_rfl) ?_; go_big_quiet_step (fail); refine wpQuiet_nil ?_))); refine wpQuiet_nil ?_)
            refine wpSch_done ?_
            (try simp only [List.take_succ_cons, List.take_zero, List.drop_succ_cons, List.drop_zero])
            (refine wpList_sta hS rfl rfl rfl rfl (by simp) (by simp [Value.oneCell']) (by simp) ?_; clear hS; intro w1 hS)
            refine wpList_nil (noPanic_intro ?_)
            go_wp2_with (first | go_skip | go_big_skip | go_big_guard)
            go_meet
            case rel => exact ⟨bE2, bO2, bG, rfl, hS.pick [0, 1, 0, 0, 0, 0]⟩
        · refine wpOp_one (by simp) ?_
          (try simp only [List.take_succ_cons, List.take_zero, List.drop_succ_cons, List.drop_zero])
          (refine wpList_alloc hS (t := 25) rfl rfl (by simp; rfl) (vs := [.int .i64 0, .slice none 0 0, .slice none 0 0]) rfl ?_; clear hS; intro bG w1 hS)
          (refine wpList_nil (stepQ_intro ⟨by first | exact hS.oldOnly | exact hS.pick [0, 1] | exact hS.pick [1, 1] | exact hS.pick [2, 2] | exact hS.pick [3, 3] | exact hS.pick [4, 4], ?_⟩); go_frame)
          refine ⟨?_, ?_⟩
          · refine wpOp_one (by simp) ?_
            (try simp only [List.take_succ_cons, List.take_zero, List.drop_succ_cons, List.drop_zero])
            (refine wpList_make hS rfl rfl rfl rfl n rfl rfl rfl (bytes := 24) (size := 1) (z := .slice none 0 0) (by rfl) rfl rfl (by omega) (by unfold maxLen; omega) ?_; clear hS; intro bE2 w1 hS)
            (refine wpList_nil (stepQ_intro ⟨by first | exact hS.oldOnly | exact hS.pick [0, 1] | exact hS.pick [1, 1] | exact hS.pick [2, 2] | exact hS.pick [3, 3] | exact hS.pick [4, 4], ?_⟩); go_frame)
            refine wpOp_one (by simp) ?_
            (try simp only [List.take_succ_cons, List.take_zero, List.drop_succ_cons, List.drop_zero])
            (refine wpList_make hS rfl rfl rfl rfl n rfl rfl rfl (bytes := 8) (size := 1) (z := .int .i64 0) (by rfl) rfl rfl (by omega) (by unfold maxLen; omega) ?_; clear hS; intro bO2 w1 hS)
            (refine wpList_nil (stepQ_intro ⟨by first | exact hS.oldOnly | exact hS.pick [0, 1] | exact hS.pick [1, 1] | exact hS.pick [2, 2] | exact hS.pick [3, 3] | exact hS.pick [4, 4], ?_⟩); go_frame)
            (refine wpSch_row 8 1 (by simp) (by kernel_rfl) (by first | exact hS.oldOnly | exact hS.pick [0, 1] | exact hS.pick [1, 1] | exact hS.pick [2, 2] | exact hS.pick [3, 3] | exact hS.pick [4, 4]) ?_; (try simp only [List.take_succ_cons, List.take_zero, List.drop_succ_cons, List.drop_zero]); (repeat (first | (refine wpQuiet_ldl rfl rfl rfl (fun _ => by simp) ?_; go_frame) | (refine wpQuiet_ldo rfl rfl rfl (by with_reducible assumption) (fun _ => by simp) ?_; go_frame) | (refine wpQuiet_weak (by kernel_rfl) ?_; go_big_quiet_step (fail); refine wpQuiet_nil ?_))); refine wpQuiet_nil ?_)
            refine wpSch_done ?_
            (try simp only [List.take_succ_cons, List.take_zero, List.drop_succ_cons, List.drop_zero])
            (refine wpList_sta hS rfl rfl rfl rfl (by simp) (by simp [Value.oneCell']) (by simp) ?_; clear hS; intro w1 hS)
            refine wpList_nil (noPanic_intro ?_)
            go_wp2_with (first | go_skip | go_big_skip | go_big_guard)
            go_meet
            case rel => exact ⟨bE2, bO2, bG, rfl, hS.pick [1, 0, 0, 0, 0, 0]⟩
          · refine wpOp_one (by simp) ?_
            (try simp only [List.take_succ_cons, List.take_zero, List.drop_succ_cons, List.drop_zero])
            (refine wpList_make hS rfl rfl rfl rfl n rfl rfl rfl (bytes := 8) (size := 1) (z := .int .i64 0) (by rfl) rfl rfl (by omega) (by unfold maxLen; omega) ?_; clear hS; intro bO2 w1 hS)
            (refine wpList_nil (stepQ_intro ⟨by first | exact hS.oldOnly | exact hS.pick [0, 1] | exact hS.pick [1, 1] | exact hS.pick [2, 2] | exact hS.pick [3, 3] | exact hS.pick [4, 4], ?_⟩); go_frame)
            refine wpOp_one (by simp) ?_
            (try simp only [List.take_succ_cons, List.take_zero, List.drop_succ_cons, List.drop_zero])
            (refine wpList_make hS rfl rfl rfl rfl n rfl rfl rfl (bytes := 24) (size := 1) (z := .slice none 0 0) (by rfl) rfl rfl (by omega) (by unfold maxLen; omega) ?_; clear hS; intro bE2 w1 hS)
            (refine wpList_nil (stepQ_intro ⟨by first | exact hS.oldOnly | exact hS.pick [0, 1] | exact hS.pick [1, 1] | exact hS.pick [2, 2] | exact hS.pick [3, 3] | exact hS.pick [4, 4], ?_⟩); go_frame)
            (refine wpSch_row 8 1 (by simp) (by kernel_rfl) (by first | exact hS.oldOnly | exact hS.pick [0, 1] | exact hS.pick [1, 1] | exact hS.pick [2, 2] | exact hS.pick [3, 3] | exact hS.pick [4, 4]) ?_; (try simp only [List.take_succ_cons, List.take_zero, List.drop_succ_cons, List.drop_zero]); (repeat (first | (refine wpQuiet_ldl rfl rfl rfl (fun _ => by simp) ?_; go_frame) | (refine wpQuiet_ldo rfl rfl rfl (by with_reducible assumption) (fun _ => by simp) ?_; go_frame) | (refine wpQuiet_weak (by kernel_rfl) ?_; go_big_quiet_step (fail); refine wpQuiet_nil ?_))); refine wpQuiet_nil ?_)
            refine wpSch_done ?_
            (try simp only [List.take_succ_cons, List.take_zero, List.drop_succ_cons, List.drop_zero])
            (refine wpList_sta hS rfl rfl rfl rfl (by simp) (by simp [Value.oneCell']) (by simp) ?_; clear hS; intro w1 hS)
            refine wpList_nil (noPanic_intro ?_)
            go_wp2_with (first | go_skip | go_big_skip | go_big_guard)
            go_meet
            case rel => exact ⟨bE2, bO2, bG, rfl, hS.pick [0, 0, 0, 0, 0, 0]⟩
      case rest =>
        clear hS
        obtain ⟨bE2, bO2, bG, rfl, hS⟩ := hcut
        have hS' : Holds w2 [vec (some ⟨bE2, 0, none⟩) n 23 1 ((selR R Z0 n 0).map Rw.val), vec (some ⟨bO2, 0, none⟩) n 3 1 ((selO O Z0 n 0).map (Value.int .i64)), blk bG 25 [.int .i64 n, .slice (some ⟨bE2, 0, none⟩) n n, .slice (some ⟨bO2, 0, none⟩) n n], vec (some ⟨bz, 0, none⟩) n 4 1 (Z0.map Value.bool), blk b2 25 [.int .i64 n, .slice (some ⟨bE, 0, none⟩) n n, .slice (some ⟨bO, 0, none⟩) n n], old w2] wc := by
          rw [selR_zero, selO_zero, List.map_replicate, List.map_replicate]
          exact hS
        clear hS
        have hS := hS'
        clear hS'
        go_wp2_with (first | go_skip | go_big_skip | go_big_guard)
        go_loopg [17] n (fun kk p wr => ∃ i : Nat, i ≤ n ∧ kk = n - i ∧ p = .int .i64 i ∧
          Holds w2 [vec (some ⟨bE2, 0, none⟩) n 23 1 ((selR R Z0 n i).map Rw.val), vec (some ⟨bO2, 0, none⟩) n 3 1 ((selO O Z0 n i).map (Value.int .i64)), blk bG 25 [.int .i64 n, .slice (some ⟨bE2, 0, none⟩) n n, .slice (some ⟨bO2, 0, none⟩) n n], vec (some ⟨bz, 0, none⟩) n 4 1 (Z0.map Value.bool), blk b2 25 [.int .i64 n, .slice (some ⟨bE, 0, none⟩) n n, .slice (some ⟨bO, 0, none⟩) n n], old w2] wr)
        case atStart => exact ⟨0, Nat.zero_le _, rfl, rfl, hS⟩
        case round =>
          clear hS
          obtain ⟨i, hi, rfl, rfl, hS⟩ := hrel
          by_cases hit : i < n
          · obtain ⟨rw1, hrw⟩ : ∃ r, R[i]? = some r := ⟨R[i]'(by have := HRL.out; omega), by simp⟩
            have cE := HCE.out i rw1 hrw
            have cO1 := HCO.out i hit
            obtain ⟨ra, rc, rz⟩ := rw1
            simp only [Rw.val] at cE
            have HRW := Lib.hid hrw
            clear hrw
            have hiZ : i < Z0.length := by have := HZL.out; omega
            have hb1 : i < ((selR R Z0 n i).map Rw.val).length := by rw [List.length_map, selR_length]; exact hit
            have hb2 : i < (selO O Z0 n i).length := by rw [selO_length]; exact hit
            by_cases hz1 : bt Z0 i = true
            · have hvj : (Z0.map Value.bool)[i]? = some (.bool true) := by rw [List.getElem?_map, bt_get hiZ, hz1]; rfl
              have HZ1 := Lib.hid hz1
              clear hz1
              go_wp2_with (first | go_skip | go_big_skip | go_big_guard | (refine wpList_ldl hS rfl rfl rfl (by simp) ?_) | (refine wpList_ldo hS rfl rfl rfl (by with_reducible assumption) (by simp) ?_) | (refine wpList_ld hS rfl rfl rfl (by simp) hvj ?_))
              refine wp_region_text 9 (by kernel_rfl) (by kernel_rfl) (by kernel_rfl) ?_
              (try simp only [List.take_succ_cons, List.take_zero, List.drop_succ_cons, List.drop_zero])
              replace hS := hS.drew
              go_wp2_with (first | go_skip | go_big_skip | go_big_guard | (refine wpList_ldl hS rfl rfl rfl (by simp) ?_) | (refine wpList_ldo hS rfl rfl rfl (by with_reducible assumption) (by simp) ?_))
              refine headQ_intro ?_
              go_wp2_with (first | go_skip | go_big_skip | go_big_guard | (refine wpList_sts hS rfl rfl rfl rfl (by simp) hb1 ?_; clear hS; intro w5 hS))
              refine wp_region_text 9 (by kernel_rfl) (by kernel_rfl) (by kernel_rfl) ?_
              (try simp only [List.take_succ_cons, List.take_zero, List.drop_succ_cons, List.drop_zero])
              replace hS := hS.drew
              go_wp2_with (first | go_skip | go_big_skip | go_big_guard | (refine wpList_ldl hS rfl rfl rfl (by simp) ?_) | (refine wpList_ldo hS rfl rfl rfl (by with_reducible assumption) (by simp) ?_))
              refine headQ_intro ?_
              go_wp2_with (first | go_skip | go_big_skip | go_big_guard | (refine wpList_sti hS rfl rfl rfl rfl (by simp) (by rw [List.length_map]; exact hb2) ?_; clear hS; intro w6 hS))
              go_roundg (n - (i + 1))
              case rel =>
                refine ⟨i + 1, by omega, rfl, by go_num, ?_⟩
                rw [selR_take R Z0 n i HZ1.out HRW.out, selO_take O Z0 n i HZ1.out, List.map_set]
                exact hS
              case measure => omega
            · have hz2 : bt Z0 i = false := by simpa using hz1
              have hvj : (Z0.map Value.bool)[i]? = some (.bool false) := by rw [List.getElem?_map, bt_get hiZ, hz2]; rfl
              have HZ2 := Lib.hid hz2
              clear hz1 hz2
              go_wp2_with (first | go_skip | go_big_skip | go_big_guard | (refine wpList_ldl hS rfl rfl rfl (by simp) ?_) | (refine wpList_ldo hS rfl rfl rfl (by with_reducible assumption) (by simp) ?_) | (refine wpList_ld hS rfl rfl rfl (by simp) hvj ?_))
              go_roundg (n - (i + 1))
              case rel =>
                refine ⟨i + 1, by omega, rfl, by go_num, ?_⟩
                rw [selR_skip R Z0 n i HZ2.out, selO_skip O Z0 n i HZ2.out]
                exact hS
              case measure => omega
          · obtain rfl : n = i := by omega
            have H := of_made (n := n) (bE := bE) (bO := bO) (w := wr) (Rows.keep HR2.out hS) (RowAt.keep HO2.out hS) HR.out HG.out
            have HG2 := Lib.hid (Good.sel (R := R) (by rw [HR.out]; exact HG.out) Z0)
            go_wp2_with (first | go_skip | go_big_skip | go_big_guard | (refine wpList_ldal (t := 25) hS rfl rfl rfl (by simp) (Try.sizeOf25 _) ?_) | (refine wpList_ldl hS rfl rfl rfl (by simp) ?_) | (go_at_call 11; refine H.mono ?_; rintro e w5 ⟨bv, out, rfl, hS', hol, hov⟩; replace hS := hS.graft hS'; clear hS' H; have HOL := Lib.hid hol; have HOV := Lib.hid hov; clear hol hov))
            have hrow2 : ∀ e ∈ selR R Z0 n n, RowAt w5 e.1 (e.2.2.map (Value.int .i64)) := fun e he => by
              rcases selR_mem he with h | rfl
              · exact (HR2.out.2 e h).keep hS
              · exact .inl rfl
            have H := of_made (n := n) (bE := bE2) (bO := bO2) (w := w5) ⟨row_of hS bE2, hrow2⟩ (row_of hS bO2) rfl HG2.out
            clear hrow2
            have hnn : ((n : Int) == (n : Int)) = true := by simp
            go_wp2_with (first | go_skip | go_big_skip | go_big_guard | (refine wpList_ldal (t := 25) hS rfl rfl rfl (by simp) (Try.sizeOf25 _) ?_) | (refine wpList_ldl hS rfl rfl rfl (by simp) ?_) | (go_at_call 11; refine H.mono ?_; rintro e w6 ⟨bw, out2, rfl, hS', hol, hov⟩; replace hS := hS.graft hS'; clear hS' H; have HOL2 := Lib.hid hol; have HOV2 := Lib.hid hov; clear hol hov))
            have hvk : (out.map (Value.int .i64))[k]? = some (.int .i64 (Vd n E O k)) := by
              rw [← HOV.out k hkn]
              exact map_rd _ (by rw [HOL.out]; exact hkn)
            have hvk2 : (out2.map (Value.int .i64))[k]? = some (.int .i64 (Vd n E O k)) := by
              have hlt : ∀ i, bt Z0 i = true → i < n := fun i hi => by have := bt_lt hi; have := HZL.out; omega
              have e := alone_math (E' := (selR R Z0 n n).map (·.2.2)) (O' := selO O Z0 n n) HG.out.inside HCL.out HZL.out (fun i hi => by rw [selR_row R Z0 n i (hlt i hi) hi, HR.out]) (fun i hi => selO_at O Z0 n i (hlt i hi) hi) HG.out.sol HG2.out.sol k HHE.out
              have e2 : rd out2 k = Vd n E O k := by rw [HOV2.out k hkn]; exact e.symm
              rw [← e2]
              exact map_rd _ (by rw [HOL2.out]; exact hkn)
            refine wp_region_plain (by kernel_rfl) (by kernel_rfl) (by kernel_rfl) ?_
            replace hS := hS.drew
            go_wp2_with (first | go_skip | go_big_skip | go_big_guard | (refine wpList_ldl hS rfl rfl rfl (by simp) ?_) | (refine wpList_ld hS rfl rfl rfl (by simp) hvk ?_) | (refine wpList_ld hS rfl rfl rfl (by simp) hvk2 ?_))
            refine headQ_intro ?_
            go_wp2_with (first | go_skip | go_big_skip | go_big_guard)
            go_ret
            exact ⟨rfl, (HDN.out.over hS.oldOnly)⟩

end Go.Proofs.Ytecegbgebefheaa
