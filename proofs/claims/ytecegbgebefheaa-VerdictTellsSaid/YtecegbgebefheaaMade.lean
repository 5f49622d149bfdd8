/- The contract of made, for all arguments. -/
import Derived.Test.YtecegbgebefheaaPiece
import Derived.Test.YtecegbgebefheaaMadeM
import Derived.Test.YtecegbgebefheaaSame
import Derived.Deep.Cut
import Derived.Deep.CutRange
import Derived.Deep.CutBlock
namespace Go.Proofs.Ytecegbgebefheaa
open Go.Sep Go.RowKit

theorem mask16 (n : Int) : 0 ≤ bits BinOp.and IntKind.i64 n 65535 ∧ bits BinOp.and IntKind.i64 n 65535 ≤ 65535 := by
  have h1 : (BitVec.ofInt 64 n &&& BitVec.ofInt 64 65535).toNat ≤ 65535 := by
    rw [BitVec.toNat_and]
    exact Nat.le_trans Nat.and_le_right (by decide)
  have e : bits BinOp.and IntKind.i64 n 65535 = ((BitVec.ofInt 64 n &&& BitVec.ofInt 64 65535).toNat : Int) := by
    show IntKind.i64.wrap ((BitVec.ofInt 64 n &&& BitVec.ofInt 64 65535).toNat : Int) = _
    generalize (BitVec.ofInt 64 n &&& BitVec.ofInt 64 65535).toNat = m at h1 ⊢
    simp only [IntKind.wrap, IntKind.bits, IntKind.signed]
    simp
    omega
  rw [e]
  omega

/-- 'n & 0xFFFF % m'. -/
def pickOf (n : Int) (m : Nat) : Nat := (bits BinOp.and IntKind.i64 n 65535 % (m : Int)).toNat

theorem pickOf_eq (n : Int) (m : Nat) (h : 0 < m) : bits BinOp.and IntKind.i64 n 65535 % (m : Int) = (pickOf n m : Int) := by
  have := Int.emod_nonneg (bits BinOp.and IntKind.i64 n 65535) (show (m : Int) ≠ 0 by omega)
  unfold pickOf
  omega

theorem pickOf_lt (n : Int) (m : Nat) (h : 0 < m) : pickOf n m < m := by
  have h1 := pickOf_eq n m h
  have := Int.emod_lt_of_pos (bits BinOp.and IntKind.i64 n 65535) (show (0 : Int) < (m : Int) by omega)
  omega

/-- A slice of pairs of bytes. -/
def PairAt (w : World) (ao : Option Addr) (es : List (Int × Int)) : Prop :=
  es = [] ∨ ∃ b off, ao = some ⟨b, off, none⟩ ∧ ∀ i p, es[i]? = some p → w.cell? ⟨b, off + i * 2, none⟩ = some (.int .u8 p.1) ∧ w.cell? ⟨b, off + i * 2 + 1, none⟩ = some (.int .u8 p.2)

def Bytes (xs : List Int) : Prop := ∀ x ∈ xs, 0 ≤ x ∧ x < 256

def MadePost (w : World) (n : Nat) (E : List (List Int)) (O : List Int) : Ending → World → Prop :=
  fun e w' => ∃ bE bO R, e = .returned (.agg #[.int .i64 n, .slice (some ⟨bE, 0, none⟩) n n, .slice (some ⟨bO, 0, none⟩) n n]) ∧ R.map (·.2.2) = E ∧
    Holds w [vec (some ⟨bE, 0, none⟩) n 23 1 (R.map Rw.val), rowsP R, vec (some ⟨bO, 0, none⟩) n 3 1 (O.map (Value.int .i64)), old w] w'

set_option maxRecDepth 100000 in
set_option maxHeartbeats 4000000 in
theorem made_any (n0 : Int) (n : Nat) (aE aO : Option Addr) (cE cO : Nat) (es : List (Int × Int)) (own : List Int) (w : World) (hn0 : n = pickOf n0 65) (hE : PairAt w aE es) (hO : RowAt w aO (own.map (Value.int .u8)))
    (hb1 : ∀ p ∈ es, 0 ≤ p.1 ∧ p.1 < 256 ∧ 0 ≤ p.2 ∧ p.2 < 256) (hb2 : Bytes own) (hm1 : es.length ≤ maxLen) (hm2 : own.length ≤ maxLen) :
    Calls Try.prog 14 #[.int .i64 n0, .slice aE es.length cE, .slice aO own.length cO] w (MadePost w n (madeE n (es.take 200)) (madeO n own)) := by
  unfold maxLen at hm1 hm2
  have hS := Holds.start w
  obtain ⟨hk1, hk2⟩ := mask16 n0
  have hk3 : bits BinOp.and IntKind.i64 n0 65535 % 65 = (n : Int) := by rw [hn0]; exact pickOf_eq n0 65 (by omega)
  have hnlt : n < 65 := by rw [hn0]; exact pickOf_lt n0 65 (by omega)
  clear hn0
  have HE := Lib.hid hE
  have HO := Lib.hid hO
  have HB1 := Lib.hid hb1
  have HB2 := Lib.hid hb2
  clear hE hO hb1 hb2
  go_enter Try.func14, Try.ntmps14
  go_wp2_with (first | go_skip | go_big_skip | go_big_guard | (refine wpList_ldl hS rfl rfl rfl (by simp) ?_) | (refine wpList_alloc hS (t := 25) rfl rfl (by simp; rfl) (vs := [.int .i64 0, .slice none 0 0, .slice none 0 0]) rfl ?_; clear hS; intro b1 w1 hS))
  simp only [hk3]
  refine wp_region_tree_via (fun _ => True) (fun a' w' => ∃ bE bO b2, a' = { tmps := ([.int .i64 n, .slice aE es.length cE, .slice aO own.length cO, undef, undef, undef, .pointer (some ⟨b1, 0, none⟩), .pointer (some ⟨b2, 0, none⟩), undef, undef, undef, undef, .int .i64 n0, .int .i64 (bits BinOp.and IntKind.i64 n0 65535), .int .i64 n, .int .i64 n, .int .i64 n, .slice (some ⟨bE, 0, none⟩) n n, .int .i64 n, .slice (some ⟨bO, 0, none⟩) n n, .agg #[.int .i64 n, .slice (some ⟨bE, 0, none⟩) n n, .slice (some ⟨bO, 0, none⟩) n n]] ++ List.replicate 66 undef).toArray, defers := [] } ∧
      Holds w [vec (some ⟨bE, 0, none⟩) n 23 1 (List.replicate n (.slice none 0 0)), vec (some ⟨bO, 0, none⟩) n 3 1 (List.replicate n (.int .i64 0)), blk b2 25 [.int .i64 0, .slice none 0 0, .slice none 0 0], blk b1 25 [.int .i64 0, .slice none 0 0, .slice none 0 0], old w] w') 7
    (.takes (List.range' 0 2) (.takes (List.range' 3 1) (.three 2 4 6 (.two 4 6 (.takes (List.range' 5 1) (.one 6 .done)) (.one 4 (.takes (List.range' 5 1) .done))) (.two 2 6 (.takes (List.range' 5 1) (.one 6 .done)) (.one 2 (.takes (List.range' 5 1) .done))) (.two 2 4 (.one 4 (.takes (List.range' 5 1) .done)) (.one 2 (.takes (List.range' 5 1) .done)))))) (by kernel_rfl) (by kernel_rfl) ?_ ?_
  · replace hS := hS.drew
    (refine wpSch_row 0 2 (by simp) (by kernel_rfl) trivial ?_; (try simp only [List.take_succ_cons, List.take_zero, List.drop_succ_cons, List.drop_zero]); (repeat (go_big_quiet_step (fail))); refine wpQuiet_nil ?_)
    (refine wpSch_row 3 1 (by simp) (by kernel_rfl) trivial ?_; (try simp only [List.take_succ_cons, List.take_zero, List.drop_succ_cons, List.drop_zero]); (repeat (go_big_quiet_step (fail))); refine wpQuiet_nil ?_)
    refine ⟨wpOp_one (by simp) ?_, wpOp_one (by simp) ?_, wpOp_one (by simp) ?_⟩
    · (try simp only [List.take_succ_cons, List.take_zero, List.drop_succ_cons, List.drop_zero])
      (refine wpList_make hS rfl rfl rfl rfl n rfl rfl rfl (bytes := 24) (size := 1) (z := .slice none 0 0) (by rfl) rfl rfl (by omega) (by unfold maxLen; omega) ?_; clear hS; intro bE w1 hS)
      (refine wpList_nil (stepQ_intro ⟨trivial, ?_⟩); go_frame)
      refine ⟨wpOp_one (by simp) ?_, wpOp_one (by simp) ?_⟩
      · (try simp only [List.take_succ_cons, List.take_zero, List.drop_succ_cons, List.drop_zero])
        (refine wpList_make hS rfl rfl rfl rfl n rfl rfl rfl (bytes := 8) (size := 1) (z := .int .i64 0) (by rfl) rfl rfl (by omega) (by unfold maxLen; omega) ?_; clear hS; intro bO w1 hS)
        (refine wpList_nil (stepQ_intro ⟨trivial, ?_⟩); go_frame)
        (refine wpSch_row 5 1 (by simp) (by kernel_rfl) trivial ?_; (try simp only [List.take_succ_cons, List.take_zero, List.drop_succ_cons, List.drop_zero]); (repeat (go_big_quiet_step (fail))); refine wpQuiet_nil ?_)
        refine wpOp_one (by simp) ?_
        (try simp only [List.take_succ_cons, List.take_zero, List.drop_succ_cons, List.drop_zero])
        (refine wpList_alloc hS (t := 25) rfl rfl (by simp; rfl) (vs := [.int .i64 0, .slice none 0 0, .slice none 0 0]) rfl ?_; clear hS; intro b2 w1 hS)
        (refine wpList_nil (stepQ_intro ⟨trivial, ?_⟩); go_frame)
        exact wpSch_done ⟨bE, bO, b2, rfl, hS.pick [2, 1, 0, 0, 0]⟩
      · (try simp only [List.take_succ_cons, List.take_zero, List.drop_succ_cons, List.drop_zero])
        (refine wpList_alloc hS (t := 25) rfl rfl (by simp; rfl) (vs := [.int .i64 0, .slice none 0 0, .slice none 0 0]) rfl ?_; clear hS; intro b2 w1 hS)
        (refine wpList_nil (stepQ_intro ⟨trivial, ?_⟩); go_frame)
        refine wpOp_one (by simp) ?_
        (try simp only [List.take_succ_cons, List.take_zero, List.drop_succ_cons, List.drop_zero])
        (refine wpList_make hS rfl rfl rfl rfl n rfl rfl rfl (bytes := 8) (size := 1) (z := .int .i64 0) (by rfl) rfl rfl (by omega) (by unfold maxLen; omega) ?_; clear hS; intro bO w1 hS)
        (refine wpList_nil (stepQ_intro ⟨trivial, ?_⟩); go_frame)
        (refine wpSch_row 5 1 (by simp) (by kernel_rfl) trivial ?_; (try simp only [List.take_succ_cons, List.take_zero, List.drop_succ_cons, List.drop_zero]); (repeat (go_big_quiet_step (fail))); refine wpQuiet_nil ?_)
        exact wpSch_done ⟨bE, bO, b2, rfl, hS.pick [2, 0, 0, 0, 0]⟩
    · (try simp only [List.take_succ_cons, List.take_zero, List.drop_succ_cons, List.drop_zero])
      (refine wpList_make hS rfl rfl rfl rfl n rfl rfl rfl (bytes := 8) (size := 1) (z := .int .i64 0) (by rfl) rfl rfl (by omega) (by unfold maxLen; omega) ?_; clear hS; intro bO w1 hS)
      (refine wpList_nil (stepQ_intro ⟨trivial, ?_⟩); go_frame)
      refine ⟨wpOp_one (by simp) ?_, wpOp_one (by simp) ?_⟩
      · (try simp only [List.take_succ_cons, List.take_zero, List.drop_succ_cons, List.drop_zero])
        (refine wpList_make hS rfl rfl rfl rfl n rfl rfl rfl (bytes := 24) (size := 1) (z := .slice none 0 0) (by rfl) rfl rfl (by omega) (by unfold maxLen; omega) ?_; clear hS; intro bE w1 hS)
        (refine wpList_nil (stepQ_intro ⟨trivial, ?_⟩); go_frame)
        (refine wpSch_row 5 1 (by simp) (by kernel_rfl) trivial ?_; (try simp only [List.take_succ_cons, List.take_zero, List.drop_succ_cons, List.drop_zero]); (repeat (go_big_quiet_step (fail))); refine wpQuiet_nil ?_)
        refine wpOp_one (by simp) ?_
        (try simp only [List.take_succ_cons, List.take_zero, List.drop_succ_cons, List.drop_zero])
        (refine wpList_alloc hS (t := 25) rfl rfl (by simp; rfl) (vs := [.int .i64 0, .slice none 0 0, .slice none 0 0]) rfl ?_; clear hS; intro b2 w1 hS)
        (refine wpList_nil (stepQ_intro ⟨trivial, ?_⟩); go_frame)
        exact wpSch_done ⟨bE, bO, b2, rfl, hS.pick [1, 1, 0, 0, 0]⟩
      · (try simp only [List.take_succ_cons, List.take_zero, List.drop_succ_cons, List.drop_zero])
        (refine wpList_alloc hS (t := 25) rfl rfl (by simp; rfl) (vs := [.int .i64 0, .slice none 0 0, .slice none 0 0]) rfl ?_; clear hS; intro b2 w1 hS)
        (refine wpList_nil (stepQ_intro ⟨trivial, ?_⟩); go_frame)
        refine wpOp_one (by simp) ?_
        (try simp only [List.take_succ_cons, List.take_zero, List.drop_succ_cons, List.drop_zero])
        (refine wpList_make hS rfl rfl rfl rfl n rfl rfl rfl (bytes := 24) (size := 1) (z := .slice none 0 0) (by rfl) rfl rfl (by omega) (by unfold maxLen; omega) ?_; clear hS; intro bE w1 hS)
        (refine wpList_nil (stepQ_intro ⟨trivial, ?_⟩); go_frame)
        (refine wpSch_row 5 1 (by simp) (by kernel_rfl) trivial ?_; (try simp only [List.take_succ_cons, List.take_zero, List.drop_succ_cons, List.drop_zero]); (repeat (go_big_quiet_step (fail))); refine wpQuiet_nil ?_)
        exact wpSch_done ⟨bE, bO, b2, rfl, hS.pick [0, 1, 0, 0, 0]⟩
    · (try simp only [List.take_succ_cons, List.take_zero, List.drop_succ_cons, List.drop_zero])
      (refine wpList_alloc hS (t := 25) rfl rfl (by simp; rfl) (vs := [.int .i64 0, .slice none 0 0, .slice none 0 0]) rfl ?_; clear hS; intro b2 w1 hS)
      (refine wpList_nil (stepQ_intro ⟨trivial, ?_⟩); go_frame)
      refine ⟨wpOp_one (by simp) ?_, wpOp_one (by simp) ?_⟩
      · (try simp only [List.take_succ_cons, List.take_zero, List.drop_succ_cons, List.drop_zero])
        (refine wpList_make hS rfl rfl rfl rfl n rfl rfl rfl (bytes := 24) (size := 1) (z := .slice none 0 0) (by rfl) rfl rfl (by omega) (by unfold maxLen; omega) ?_; clear hS; intro bE w1 hS)
        (refine wpList_nil (stepQ_intro ⟨trivial, ?_⟩); go_frame)
        refine wpOp_one (by simp) ?_
        (try simp only [List.take_succ_cons, List.take_zero, List.drop_succ_cons, List.drop_zero])
        (refine wpList_make hS rfl rfl rfl rfl n rfl rfl rfl (bytes := 8) (size := 1) (z := .int .i64 0) (by rfl) rfl rfl (by omega) (by unfold maxLen; omega) ?_; clear hS; intro bO w1 hS)
        (refine wpList_nil (stepQ_intro ⟨trivial, ?_⟩); go_frame)
        (refine wpSch_row 5 1 (by simp) (by kernel_rfl) trivial ?_; (try simp only [List.take_succ_cons, List.take_zero, List.drop_succ_cons, List.drop_zero]); (repeat (go_big_quiet_step (fail))); refine wpQuiet_nil ?_)
        exact wpSch_done ⟨bE, bO, b2, rfl, hS.pick [1, 0, 0, 0, 0]⟩
      · (try simp only [List.take_succ_cons, List.take_zero, List.drop_succ_cons, List.drop_zero])
        (refine wpList_make hS rfl rfl rfl rfl n rfl rfl rfl (bytes := 8) (size := 1) (z := .int .i64 0) (by rfl) rfl rfl (by omega) (by unfold maxLen; omega) ?_; clear hS; intro bO w1 hS)
        (refine wpList_nil (stepQ_intro ⟨trivial, ?_⟩); go_frame)
        refine wpOp_one (by simp) ?_
        (try simp only [List.take_succ_cons, List.take_zero, List.drop_succ_cons, List.drop_zero])
        (refine wpList_make hS rfl rfl rfl rfl n rfl rfl rfl (bytes := 24) (size := 1) (z := .slice none 0 0) (by rfl) rfl rfl (by omega) (by unfold maxLen; omega) ?_; clear hS; intro bE w1 hS)
        (refine wpList_nil (stepQ_intro ⟨trivial, ?_⟩); go_frame)
        (refine wpSch_row 5 1 (by simp) (by kernel_rfl) trivial ?_; (try simp only [List.take_succ_cons, List.take_zero, List.drop_succ_cons, List.drop_zero]); (repeat (go_big_quiet_step (fail))); refine wpQuiet_nil ?_)
        exact wpSch_done ⟨bE, bO, b2, rfl, hS.pick [0, 0, 0, 0, 0]⟩
  · clear hS
    rintro a' w' ⟨bE, bO, b2, rfl, hS⟩
    simp only [List.reduceReplicate, List.cons_append, List.nil_append]
    (try simp only [List.take_succ_cons, List.take_zero, List.drop_succ_cons, List.drop_zero])
    (refine wpList_sta hS rfl rfl rfl rfl (by simp) (by simp [Value.oneCell']) (by simp) ?_; clear hS; intro w1 hS)
    refine wpList_nil (noPanic_intro ?_)
    go_upto_block 0 with (first | go_skip | go_big_skip | go_big_guard)
    go_cut [] from 8 (fun wx => ∃ R : List Rw, R.map (·.2.2) = madeE n (es.take 200) ∧ Holds w [vec (some ⟨bE, 0, none⟩) n 23 1 (R.map Rw.val), rowsP R, vec (some ⟨bO, 0, none⟩) n 3 1 (List.replicate n (.int .i64 0)), blk b2 25 [.int .i64 n, .slice (some ⟨bE, 0, none⟩) n n, .slice (some ⟨bO, 0, none⟩) n n], blk b1 25 [.int .i64 0, .slice none 0 0, .slice none 0 0], old w] wx)
    case first =>
      go_wp2_with (first | go_skip | go_big_skip | go_big_guard)
      go_loopg [8] 200 (fun k i wr => ∃ (j : Nat) (R : List Rw), j ≤ 200 ∧ j ≤ es.length ∧ (0 < n ∨ j = 0) ∧ k = 200 - j ∧ i = .int .i64 j ∧ R.map (·.2.2) = madeE n (es.take j) ∧
        Holds w [vec (some ⟨bE, 0, none⟩) n 23 1 (R.map Rw.val), rowsP R, vec (some ⟨bO, 0, none⟩) n 3 1 (List.replicate n (.int .i64 0)), blk b2 25 [.int .i64 n, .slice (some ⟨bE, 0, none⟩) n n, .slice (some ⟨bO, 0, none⟩) n n], blk b1 25 [.int .i64 0, .slice none 0 0, .slice none 0 0], old w] wr)
      case atStart => exact ⟨0, List.replicate n (none, 0, []), by omega, Nat.zero_le _, .inr rfl, rfl, rfl, by simp [madeE], by
        have h := (rows_zero hS n).pick [1, 0, 0, 0, 0, 0]
        rw [List.map_replicate]
        exact h⟩
      case round =>
        clear hS
        obtain ⟨j, R, hj1, hj2, hj3, rfl, rfl, hR, hS⟩ := hrel
        have HR := Lib.hid hR
        have HJ3 := Lib.hid hj3
        clear hR hj3
        by_cases hlt : 0 < n ∧ j < es.length ∧ j < 200
        · obtain ⟨h1, h2, h3⟩ := hlt
          have hb := HB1.out es[j] (List.getElem_mem h2)
          obtain ⟨hp1, hp2, hp3, hp4⟩ := hb
          obtain ⟨be, oe, rfl, hc⟩ := HE.out.resolve_left (fun e => by rw [e] at h2; simp at h2)
          obtain ⟨hc1, hc2⟩ := hc j es[j] (by simp)
          generalize hp : es[j] = p at *
          obtain ⟨p1, p2⟩ := p
          dsimp only at *
          have HP := Lib.hid hp
          clear hc hp
          obtain ⟨k, hk, hkn⟩ : ∃ k : Nat, p1 % (n : Int) = k ∧ k < n :=
            ⟨(p1 % (n : Int)).toNat, by have := Int.emod_nonneg p1 (show (n : Int) ≠ 0 by omega); omega, by have := Int.emod_lt_of_pos p1 (show (0 : Int) < n by omega); have := Int.emod_nonneg p1 (show (n : Int) ≠ 0 by omega); omega⟩
          go_wp2_with (first | go_skip | go_big_skip | go_big_guard | (refine wpList_ldl hS rfl rfl rfl (by simp) ?_) | (refine wpList_ldo hS rfl rfl rfl (by with_reducible assumption) (by simp) ?_))
          simp only [hk]
          have HK := Lib.hid hk
          clear hk
          have hRl : R.length = n := by
            have := congrArg List.length HR.out
            rwa [List.length_map, madeE_length] at this
          have hrlk : k < R.length := by omega
          obtain ⟨r, hr⟩ : ∃ r, R[k]? = some r := ⟨R[k], by simp⟩
          have hrz : r.2.2.length ≤ 200 := by
            have h1 := madeE_short n (es.take j) r.2.2 (by rw [← HR.out]; exact List.mem_map_of_mem (List.mem_of_getElem? hr))
            simp at h1
            omega
          have hrv : (R.map Rw.val)[k]? = some (Rw.val r) := by simp [hr]
          have HRL := Lib.hid hRl
          clear hRl
          have hS1 := rows_take (hS.pick [1, 0, 0, 0, 0, 0]) k hrlk
          rw [show R[k] = r by have := List.getElem?_eq_getElem hrlk; rw [hr] at this; exact (Option.some.inj this).symm] at hS1
          have HRK := Lib.hid hr
          clear hr hS
          have hS := hS1
          clear hS1
          obtain ⟨ra, rc, rz⟩ := r
          simp only [Rw.val] at hrv
          dsimp only at hrz
          have hS1 : Holds w [vec ra rc 3 1 (rz.map (Value.int .i64)), rowsP (R.eraseIdx k), vec (some ⟨bE, 0, none⟩) n 23 1 (R.map Rw.val), vec (some ⟨bO, 0, none⟩) n 3 1 (List.replicate n (.int .i64 0)), blk b2 25 [.int .i64 n, .slice (some ⟨bE, 0, none⟩) n n, .slice (some ⟨bO, 0, none⟩) n n], blk b1 25 [.int .i64 0, .slice none 0 0, .slice none 0 0], old w] wr := hS
          clear hS
          have hS := hS1
          clear hS1
          refine wp_region_tree (Holds w [vec (some ⟨bE, 0, none⟩) n 23 1 (R.map Rw.val), blk b2 25 [.int .i64 n, .slice (some ⟨bE, 0, none⟩) n n, .slice (some ⟨bO, 0, none⟩) n n], old w]) 18 (.takes (List.range' 0 16) (.one 16 (.one 17 .done))) (by kernel_rfl) (by kernel_rfl) ?_
          replace hS := hS.drew
          refine wpSch_row 0 16 (by simp) (by kernel_rfl) (hS.pick [2, 3, 4]) ?_
          (try simp only [List.take_succ_cons, List.take_zero, List.drop_succ_cons, List.drop_zero])
          repeat (first | (refine wpQuiet_ldl rfl rfl rfl (fun _ => by simp) ?_; go_frame) | (refine wpQuiet_ldo rfl rfl rfl (by with_reducible assumption) (fun _ => by simp) ?_; go_frame) | (refine wpQuiet_ld rfl rfl rfl (fun _ => by simp) hrv ?_; go_frame) | (refine wpQuiet_weak (by kernel_rfl) ?_; go_big_quiet_step (fail); refine wpQuiet_nil ?_))
          refine wpQuiet_nil ?_
          refine wpOp_one (by simp) ?_
          (try simp only [List.take_succ_cons, List.take_zero, List.drop_succ_cons, List.drop_zero])
          (refine wpList_lit hS rfl rfl (size := 1) (by go_simp; rfl) rfl (by unfold maxLen; omega) ?_; clear hS; intro b w1 hS)
          refine wpList_nil (stepQ_intro ⟨hS.pick [3, 4, 5], ?_⟩)
          go_frame
          refine wpOp_one (by simp) ?_
          (try simp only [List.take_succ_cons, List.take_zero, List.drop_succ_cons, List.drop_zero])
          have hnews := news_of hS b
          have HN := Lib.hid hnews
          clear hnews
          refine wpList_app hS (s := .tmp 50) rfl rfl rfl rfl rfl (bytes := 8) (size := 1) (z := .int .i64 0) (by rfl) rfl (by omega) (by simp) rfl (m := 1) (news := [.int .i64 (p2 % n)]) rfl HN.out (by simp [Value.oneCell']) (by unfold maxLen; omega) (by omega) ?_
          clear hS HN
          intro ao' cap' w2 hS
          refine wpList_nil (stepQ_intro ⟨hS.pick [3, 4, 5], ?_⟩)
          go_frame
          refine wpSch_done ?_
          (try simp only [List.take_succ_cons, List.take_zero, List.drop_succ_cons, List.drop_zero])
          go_wp2_with (first | go_skip | go_big_skip | go_big_guard | (refine wpList_sts hS rfl rfl rfl rfl (by simp) (by simpa using hrlk) ?_; clear hS; intro w1 hS))
          refine noPanic_intro ?_
          go_wp2_with (first | go_skip | go_big_skip | go_big_guard)
          go_roundg (200 - (j + 1))
          case rel =>
            refine ⟨j + 1, R.set k (ao', cap', rz ++ [p2 % n]), by omega, by omega, .inl h1, rfl, by go_num, ?_, ?_⟩
            · rw [madeE_succ n es j h2, HP.out, ← HR.out]
              unfold madeStep
              dsimp only
              rw [HK.out, Int.toNat_natCast, List.map_set]
              congr 1
              simp [HRK.out]
            · have h := rows_put (r := (ao', cap', rz ++ [p2 % n])) (L := [_, _, _, _, _]) (hS.pick [1, 1, 1, 1, 1, 1, 1]) hrlk
              have h2 := h.pick [1, 0, 0, 0, 0, 0]
              have e : (R.map Rw.val).set k (.slice ao' (rz.length + 1) cap') = (R.set k (ao', cap', rz ++ [p2 % n])).map Rw.val := by simp [List.map_set, Rw.val]
              rw [← e]
              exact h2
          case measure => omega
        · by_cases h1 : 0 < n
          · by_cases h2 : j < es.length
            · have h3 : ¬ j < 200 := fun h3 => hlt ⟨h1, h2, h3⟩
              have HLT := Lib.hid hlt
              clear hlt
              go_wp2_with (first | go_skip | go_big_skip | go_big_guard)
              go_meet
              case rel =>
                obtain rfl : j = 200 := by omega
                exact ⟨R, HR.out, hS⟩
            · have HLT := Lib.hid hlt
              clear hlt
              go_wp2_with (first | go_skip | go_big_skip | go_big_guard)
              go_meet
              case rel =>
                refine ⟨R, ?_, hS⟩
                rw [HR.out, List.take_of_length_le (by omega), List.take_of_length_le (by omega)]
          · have HLT := Lib.hid hlt
            clear hlt
            go_wp2_with (first | go_skip | go_big_skip | go_big_guard)
            go_meet
            case rel =>
              obtain rfl : n = 0 := by omega
              refine ⟨R, ?_, hS⟩
              rw [List.eq_nil_of_length_eq_zero (madeE_length 0 (es.take 200)), HR.out, List.eq_nil_of_length_eq_zero (madeE_length 0 (es.take j))]
    case rest =>
      clear hS
      obtain ⟨R, hR, hS⟩ := hcut
      have HR := Lib.hid hR
      clear hR
      have hS' : Holds w [vec (some ⟨bO, 0, none⟩) n 3 1 ((List.replicate n (0 : Int)).map (Value.int .i64)), vec (some ⟨bE, 0, none⟩) n 23 1 (R.map Rw.val), rowsP R, blk b2 25 [.int .i64 n, .slice (some ⟨bE, 0, none⟩) n n, .slice (some ⟨bO, 0, none⟩) n n], blk b1 25 [.int .i64 0, .slice none 0 0, .slice none 0 0], old w] wc := by
        rw [List.map_replicate]
        exact hS.pick [2, 0, 0, 0, 0, 0]
      clear hS
      have hS := hS'
      clear hS'
      go_wp2_with (first | go_skip | go_big_skip | go_big_guard | (refine wpList_lit hS rfl rfl (size := 1) (by go_simp; rfl) rfl (by unfold maxLen; omega) ?_; clear hS; intro b w1 hS))
      go_loopg [11] n (fun k i wr => ∃ (j : Nat) (O : List Int), j ≤ n ∧ j ≤ own.length ∧ k = n - j ∧ i = .int .i64 j ∧ O.length = n ∧ (∀ i, i < n → rd O i = if i < j then kindOf (rd own i) else 0) ∧
        Holds w [vec (some ⟨b, 0, none⟩) 3 3 1 [.int .i64 0, .int .i64 5, .int .i64 6], vec (some ⟨bO, 0, none⟩) n 3 1 (O.map (Value.int .i64)), vec (some ⟨bE, 0, none⟩) n 23 1 (R.map Rw.val), rowsP R, blk b2 25 [.int .i64 n, .slice (some ⟨bE, 0, none⟩) n n, .slice (some ⟨bO, 0, none⟩) n n], blk b1 25 [.int .i64 0, .slice none 0 0, .slice none 0 0], old w] wr)
      case atStart => exact ⟨0, List.replicate n 0, Nat.zero_le _, Nat.zero_le _, rfl, rfl, by simp, fun i hi => by simp [rd, hi], hS⟩
      case round =>
        clear hS
        obtain ⟨j, O, hj1, hj2, rfl, rfl, hOl, hOv, hS⟩ := hrel
        have HOL := Lib.hid hOl
        have HOV := Lib.hid hOv
        clear hOl hOv
        by_cases h1 : j < n
        · by_cases h2 : j < own.length
          · obtain ⟨bo, oo, rfl, hc⟩ := HO.out.at (by rw [List.length_map]; omega)
            have hcj : w.cell? ⟨bo, oo + j, none⟩ = some (.int .u8 (rd own j)) := hc j _ (map_rd _ h2)
            clear hc
            have hb : 0 ≤ rd own j ∧ rd own j < 256 := by rw [rd_eq h2]; exact HB2.out _ (List.getElem_mem h2)
            obtain ⟨hb1, hb2⟩ := hb
            have hm1 : 0 ≤ rd own j % 3 := by omega
            have hm2 : rd own j % 3 < 3 := by omega
            have hkv : ([.int .i64 0, .int .i64 5, .int .i64 6] : List Value)[(rd own j % 3).toNat]? = some (.int .i64 (kindOf (rd own j))) := by
              unfold kindOf
              have : rd own j % 3 = 0 ∨ rd own j % 3 = 1 ∨ rd own j % 3 = 2 := by omega
              rcases this with h | h | h <;> rw [h] <;> rfl
            have hjO : j < O.length := by have := HOL.out; omega
            go_wp2_with (first | go_skip | go_big_skip | go_big_guard | (refine wpList_ldl hS rfl rfl rfl (by simp) ?_) | (refine wpList_ldo hS rfl rfl rfl (by with_reducible assumption) (by simp) ?_))
            refine wp_region_text 12 (by kernel_rfl) (by kernel_rfl) (by kernel_rfl) ?_
            (try simp only [List.take_succ_cons, List.take_zero, List.drop_succ_cons, List.drop_zero])
            replace hS := hS.drew
            go_wp2_with (first | go_skip | go_big_skip | go_big_guard | (refine wpList_ldl hS rfl rfl rfl (by simp) ?_) | (refine wpList_ldo hS rfl rfl rfl (by with_reducible assumption) (by simp) ?_) | (refine wpList_ld hS rfl rfl rfl (by simp) hkv ?_))
            refine headQ_intro ?_
            go_wp2_with (first | go_skip | go_big_skip | go_big_guard | (refine wpList_sti hS rfl rfl rfl rfl (by simp) (by (try simp only [List.length_map, List.length_set]); omega) ?_; clear hS; intro w1 hS))
            go_roundg (n - (j + 1))
            case rel =>
              refine ⟨j + 1, O.set j (kindOf (rd own j)), by omega, by omega, rfl, by go_num, by rw [List.length_set]; exact HOL.out, fun i hi => ?_, hS⟩
              rw [rd_set hjO]
              by_cases e : i = j
              · subst e
                rw [if_pos rfl, if_pos (by omega)]
              · rw [if_neg e, HOV.out i hi]
                by_cases e' : i < j
                · rw [if_pos e', if_pos (by omega)]
                · rw [if_neg e', if_neg (by omega)]
            case measure => omega
          · go_wp2_with (first | go_skip | go_big_skip | go_big_guard | (refine wpList_ldal (t := 25) hS rfl rfl rfl (by simp) (Try.sizeOf25 _) ?_) | (refine wpList_sta hS rfl rfl rfl rfl (by simp) (by simp [Value.oneCell']) (by simp) ?_; clear hS; intro w1 hS))
            refine bodyPost_ret (results_cell (b := b1) hS rfl rfl (by simp) (Try.sizeOf25 _)) rfl ?_
            refine ⟨bE, bO, R, rfl, HR.out, ?_⟩
            have e : O = madeO n own := by
              apply rd_ext (by rw [HOL.out, madeO_length])
              intro i hi
              rw [HOV.out i (by have := HOL.out; omega), show rd (madeO n own) i = (madeO n own).getD i 0 from rfl, madeO_get n own i (by have := HOL.out; omega), show own.getD i 0 = rd own i from rfl]
              have e2 : j = own.length := by omega
              rw [e2]
            rw [← e]
            exact hS.pick [2, 2, 1, 3]
        · go_wp2_with (first | go_skip | go_big_skip | go_big_guard | (refine wpList_ldal (t := 25) hS rfl rfl rfl (by simp) (Try.sizeOf25 _) ?_) | (refine wpList_sta hS rfl rfl rfl rfl (by simp) (by simp [Value.oneCell']) (by simp) ?_; clear hS; intro w1 hS))
          refine bodyPost_ret (results_cell (b := b1) hS rfl rfl (by simp) (Try.sizeOf25 _)) rfl ?_
          refine ⟨bE, bO, R, rfl, HR.out, ?_⟩
          have e : O = madeO n own := by
            apply rd_ext (by rw [HOL.out, madeO_length])
            intro i hi
            have hl := HOL.out
            rw [HOV.out i (by omega), show rd (madeO n own) i = (madeO n own).getD i 0 from rfl, madeO_get n own i (by omega), show own.getD i 0 = rd own i from rfl, if_pos (by omega), if_pos (by omega)]
          rw [← e]
          exact hS.pick [2, 2, 1, 3]

end Go.Proofs.Ytecegbgebefheaa
