/- The contract of the recursive closure inside verdict.Of, for facts that may be. -/
import Derived.Test.YtecegbgebefheaaBehind
namespace Go.Proofs.Ytecegbgebefheaa
open Go.Sep Go.RowKit

abbrev Ctx (N bd bo bF bw bB bR bOf : Nat) (aE aO : Option Addr) (cE cO : Nat) (rnd : Nat) (w0 : World) (beh out : List Int) : List SP :=
  [vec (some ⟨bd, 0, none⟩) N 3 1 (out.map (Value.int .i64)), blk bo 23 [.slice (some ⟨bd, 0, none⟩) N N], blk bF 25 [.int .i64 N, .slice aE N cE, .slice aO N cO],
   blk bB 43 [.slice (some ⟨bw, 0, none⟩) N N], vec (some ⟨bw, 0, none⟩) N 45 1 (beh.map (Value.int .u64)), blk bR 45 [.int .u64 rnd], blk bOf 47 [.func (.func 18) #[] #[.pointer (some ⟨bo, 0, none⟩), .pointer (some ⟨bF, 0, none⟩), .pointer (some ⟨bB, 0, none⟩), .pointer (some ⟨bR, 0, none⟩), .pointer (some ⟨bOf, 0, none⟩)]], old w0]

theorem bits_and_ne (a b : Nat) (ha : a < 18446744073709551616) (hb : b < 18446744073709551616) : (bits BinOp.and IntKind.u64 (a : Int) (b : Int) != 0) = true ↔ ∃ j, a.testBit j = true ∧ b.testBit j = true := by
  rw [bits_and_u64_nat a b ha hb, bne_iff_ne]
  constructor
  · intro h
    have h0 : a &&& b ≠ 0 := fun e => h (by rw [e]; rfl)
    obtain ⟨j, hj⟩ := Nat.exists_testBit_of_ne_zero h0
    rw [Nat.testBit_and, Bool.and_eq_true] at hj
    exact ⟨j, hj⟩
  · rintro ⟨j, h1, h2⟩ h
    have h0 : a &&& b = 0 := by omega
    have : (a &&& b).testBit j = true := by rw [Nat.testBit_and, h1, h2]; rfl
    rw [h0] at this
    simp at this

def OfPost (N bd bo bF bw bB bR bOf : Nat) (aE aO : Option Addr) (cE cO : Nat) (rnd : Nat) (w0 : World) (beh : List Int) (E : List (List Int)) (V : Nat → Int) (i : Nat) (out : List Int) : Ending → World → Prop :=
  fun e w' => ∃ out', e = .returned (.int .i64 (V i)) ∧ Holds w0 (Ctx N bd bo bF bw bB bR bOf aE aO cE cO rnd w0 beh out') w' ∧ out'.length = N ∧ rd out' i = V i ∧
    ∀ j, j < N → rd out' j = rd out j ∨ ((j = i ∨ Way E i j) ∧ rd out' j = V j)

set_option maxHeartbeats 4000000 in
theorem of1_any (N bd bo bF bw bB bR bOf : Nat) (aE aO : Option Addr) (cE cO : Nat) (rnd : Nat) (w0 : World) (beh : List Int) (E : List Rw) (O : List Int) (V : Nat → Int)
    (hN : N ≤ 64) (hE : E.length = N) (hO : O.length = N) (hR : Rows w0 aE E) (hRO : RowAt w0 aO (O.map (Value.int .i64))) (hI : Inside N (E.map (·.2.2))) (hlen : ∀ e ∈ E, e.2.2.length ≤ maxLen)
    (hbl : beh.length = N) (hbe : ∀ i, i < N → rd beh i = W (E.map (·.2.2)) N i) (hrl : rnd < 18446744073709551616) (hrn : ∀ j, rnd.testBit j = true ↔ Way (E.map (·.2.2)) j j)
    (hV : Sol N (E.map (·.2.2)) O V) (k : Nat) : ∀ (i : Nat) (out : List Int) (w : World), behindN N (E.map (·.2.2)) i < k → i < N → out.length = N →
      (∀ j, j < N → (j = i ∨ Way (E.map (·.2.2)) i j) → rd out j = -1 ∨ rd out j = V j) → Holds w0 (Ctx N bd bo bF bw bB bR bOf aE aO cE cO rnd w0 beh out) w →
      Calls Try.prog 18 #[.int .i64 i, .pointer (some ⟨bo, 0, none⟩), .pointer (some ⟨bF, 0, none⟩), .pointer (some ⟨bB, 0, none⟩), .pointer (some ⟨bR, 0, none⟩), .pointer (some ⟨bOf, 0, none⟩)] w (OfPost N bd bo bF bw bB bR bOf aE aO cE cO rnd w0 beh (E.map (·.2.2)) V i out) := by
  induction k with
  | zero => intro i out w h; omega
  | succ k ih =>
    intro i out w hk hi hl hok hS
    have hil : i < out.length := by omega
    have hibl : i < beh.length := by omega
    have HL := Lib.hid hl
    have HK := Lib.hid hok
    have HR := Lib.hid hR
    have HRO := Lib.hid hRO
    have HBE := Lib.hid hbe
    have HRN := Lib.hid hrn
    have HI := Lib.hid hI
    have HLEN := Lib.hid hlen
    have HBL := Lib.hid hbl
    have HE0 := Lib.hid hE
    have HO0 := Lib.hid hO
    have IH := Lib.hid ih
    clear hl hok hR hRO hbe hrn hI hlen hbl hE hO ih
    by_cases hu : rd out i = -1
    case neg =>
      have hu' : (rd out i != -1) = true := by simpa using hu
      go_enter Try.func18, Try.ntmps18
      go_wp2_with (first | go_skip | go_big_skip | go_big_guard | (refine wpList_ldl hS rfl rfl rfl (by simp) ?_) | (refine wpList_ldi hS rfl rfl rfl (by simp) (by (try simp only [List.length_set]); omega) ?_))
      go_ret
      have hv : rd out i = V i := (HK.out i hi (.inl rfl)).resolve_left hu
      exact ⟨out, by rw [← hv]; rfl, hS, HL.out, hv, fun j hj => .inl rfl⟩
    have hu' : (rd out i != -1) = false := by simpa using hu
    have HU := Lib.hid hu
    clear hu
    obtain ⟨b', off', hao', hc'⟩ := HRO.out.at (by have := HO0.out; simp; omega)
    have hiO : i < O.length := by have := HO0.out; omega
    have hco : w0.cell? ⟨b', off' + i, none⟩ = some (.int .i64 (rd O i)) := hc' i _ (map_rd _ hiO)
    subst hao'
    clear hc'
    have hand : (bits BinOp.and IntKind.u64 (rd beh i) (rnd : Int) != 0) = true ↔ Cyc (E.map (·.2.2)) i := by
      have hwlt : W (E.map (·.2.2)) N i < 18446744073709551616 := Nat.lt_of_lt_of_le (W_lt HI.out N i) (pow64 hN)
      rw [HBE.out i hi, bits_and_ne _ _ hwlt hrl]
      constructor
      · rintro ⟨j, h1, h2⟩
        exact ⟨j, (W_iff HI.out i j).1 h1, (HRN.out j).1 h2⟩
      · rintro ⟨j, h1, h2⟩
        exact ⟨j, (W_iff HI.out i j).2 h1, (HRN.out j).2 h2⟩
    by_cases hc : Cyc (E.map (·.2.2)) i
    case pos =>
      replace hand := hand.2 hc
      have HC := Lib.hid hc
      clear hc
      go_enter Try.func18, Try.ntmps18
      go_wp2_with (first | go_skip | go_big_skip | go_big_guard | (refine wpList_ldl hS rfl rfl rfl (by simp) ?_) | (refine wpList_ldi hS rfl rfl rfl (by simp) (by (try simp only [List.length_set]); omega) ?_))
      refine wp_region_text 8 (by kernel_rfl) (by kernel_rfl) (by kernel_rfl) ?_
      (try simp only [List.take_succ_cons, List.take_zero, List.drop_succ_cons, List.drop_zero])
      replace hS := hS.drew
      go_wp2_with (first | go_skip | go_big_skip | go_big_guard | (refine wpList_ldl hS rfl rfl rfl (by simp) ?_) | (refine wpList_ldi hS rfl rfl rfl (by simp) (by (try simp only [List.length_set]); omega) ?_) | (refine wpList_ldo hS rfl rfl rfl (by with_reducible assumption) (by simp) ?_))
      refine headQ_intro ?_
      go_wp2_with (first | go_skip | go_big_skip | go_big_guard | (refine wpList_sti hS rfl rfl rfl rfl (by simp) (by (try simp only [List.length_map, List.length_set]); omega) ?_; clear hS; intro w1 hS))
      refine wp_region_plain (by kernel_rfl) (by kernel_rfl) (by kernel_rfl) ?_
      replace hS := hS.drew
      go_wp2_with (first | go_skip | go_big_skip | go_big_guard | (refine wpList_ldl hS rfl rfl rfl (by simp) ?_) | (refine wpList_ldi hS rfl rfl rfl (by simp) (by (try simp only [List.length_set]); omega) ?_) | (refine wpList_ldo hS rfl rfl rfl (by with_reducible assumption) (by simp) ?_))
      refine headQ_intro ?_
      go_wp2_with (first | go_skip | go_big_skip | go_big_guard | (refine wpList_ldl hS rfl rfl rfl (by simp) ?_) | (refine wpList_ldi hS rfl rfl rfl (by simp) (by (try simp only [List.length_set]); omega) ?_) | (refine wpList_sti hS rfl rfl rfl rfl (by simp) (by (try simp only [List.length_map, List.length_set]); omega) ?_; clear hS; intro w1 hS))
      go_ret
      refine ⟨(out.set i (rd O i)).set i 7, ?_, hS, by simpa using HL.out, ?_, fun j hj => ?_⟩
      · rw [hV.cyc i hi HC.out]
        simp [rd, hil]
      · rw [hV.cyc i hi HC.out]
        simp [rd, hil]
      · have hl := HL.out
        rw [rd_set (by simp; omega), rd_set (by omega)]
        by_cases e : j = i
        · subst e
          exact .inr ⟨.inl rfl, by rw [if_pos rfl, hV.cyc j hi HC.out]⟩
        · exact .inl (by rw [if_neg e, if_neg e])
    have hand' : (bits BinOp.and IntKind.u64 (rd beh i) (rnd : Int) != 0) = false := by
      rw [Bool.eq_false_iff]; exact fun h => hc (hand.1 h)
    clear hand
    have HC := Lib.hid hc
    clear hc
    obtain ⟨b, off, hao, hcE⟩ := HR.out.1.at (by have := HE0.out; simp; omega)
    obtain ⟨e, he⟩ : ∃ e, E[i]? = some e := ⟨E[i]'(by have := HE0.out; omega), by simp⟩
    have hem : e ∈ E := List.mem_of_getElem? he
    have hrow := HR.out.2 e hem
    have hine := HI.out e.2.2 (List.mem_map_of_mem hem)
    have hlene := HLEN.out e hem
    unfold maxLen at hlene
    have hcj : w0.cell? ⟨b, off + i, none⟩ = some (Rw.val e) := hcE i _ (by simp [he])
    subst hao
    clear hcE hem
    obtain ⟨ra, rc, rz⟩ := e
    simp only [Rw.val] at hcj
    dsimp only at hrow hine hlene
    have hrz : (E.map (·.2.2)).getD i [] = rz := by simp [he]
    have HE := Lib.hid he
    have HIN := Lib.hid hine
    have HRZ := Lib.hid hrz
    clear he hine hrz
    go_enter Try.func18, Try.ntmps18
    go_wp2_with (first | go_skip | go_big_skip | go_big_guard | (refine wpList_ldl hS rfl rfl rfl (by simp) ?_) | (refine wpList_ldi hS rfl rfl rfl (by simp) (by (try simp only [List.length_set]); omega) ?_))
    refine wp_region_text 8 (by kernel_rfl) (by kernel_rfl) (by kernel_rfl) ?_
    (try simp only [List.take_succ_cons, List.take_zero, List.drop_succ_cons, List.drop_zero])
    replace hS := hS.drew
    go_wp2_with (first | go_skip | go_big_skip | go_big_guard | (refine wpList_ldl hS rfl rfl rfl (by simp) ?_) | (refine wpList_ldi hS rfl rfl rfl (by simp) (by (try simp only [List.length_set]); omega) ?_) | (refine wpList_ldo hS rfl rfl rfl (by with_reducible assumption) (by simp) ?_))
    refine headQ_intro ?_
    go_wp2_with (first | go_skip | go_big_skip | go_big_guard | (refine wpList_sti hS rfl rfl rfl rfl (by simp) (by (try simp only [List.length_map, List.length_set]); omega) ?_; clear hS; intro w1 hS))
    refine wp_region_plain (by kernel_rfl) (by kernel_rfl) (by kernel_rfl) ?_
    replace hS := hS.drew
    go_wp2_with (first | go_skip | go_big_skip | go_big_guard | (refine wpList_ldl hS rfl rfl rfl (by simp) ?_) | (refine wpList_ldi hS rfl rfl rfl (by simp) (by (try simp only [List.length_set]); omega) ?_) | (refine wpList_ldo hS rfl rfl rfl (by with_reducible assumption) (by simp) ?_))
    refine headQ_intro ?_
    go_wp2_with (first | go_skip | go_big_skip | go_big_guard | (refine wpList_ldl hS rfl rfl rfl (by simp) ?_) | (refine wpList_ldi hS rfl rfl rfl (by simp) (by (try simp only [List.length_set]); omega) ?_) | (refine wpList_ldo hS rfl rfl rfl (by with_reducible assumption) (by simp) ?_))
    go_loopg [48] rz.length (fun k p wr => ∃ (m : Nat) (o : List Int), m ≤ rz.length ∧ k = rz.length - m ∧ p = .int .i64 m ∧ o.length = N ∧ rd o i = bends (rd O i) ((rz.take m).map fun x => V x.toNat) ∧
      (∀ j, j < N → j ≠ i → rd o j = rd out j ∨ (Way (E.map (·.2.2)) i j ∧ rd o j = V j)) ∧ Holds w0 (Ctx N bd bo bF bw bB bR bOf (some ⟨b, off, none⟩) (some ⟨b', off', none⟩) cE cO rnd w0 beh o) wr)
    case atStart =>
      have hl := HL.out
      exact ⟨0, out.set i (rd O i), Nat.zero_le _, rfl, rfl, by simpa using hl, by rw [rd_set (by omega), if_pos rfl]; simp [bends], fun j hj hne => by rw [rd_set (by omega), if_neg hne]; exact .inl rfl, hS⟩
    case round =>
      clear hS
      obtain ⟨m, o, hm, rfl, rfl, hol, hoi, hoj, hS⟩ := hrel
      have HOI := Lib.hid hoi
      have HOJ := Lib.hid hoj
      have HOL := Lib.hid hol
      have hio : i < o.length := by omega
      clear hoi hoj hol
      by_cases hmt : m < rz.length
      · obtain ⟨b2, off2, hao2, hc2⟩ := hrow.at (by simp; omega)
        have hcm : w0.cell? ⟨b2, off2 + m, none⟩ = some (.int .i64 (rd rz m)) := hc2 m _ (map_rd _ hmt)
        obtain ⟨c, hcn⟩ : ∃ c : Nat, rd rz m = c := ⟨(rd rz m).toNat, by have := HIN.out _ (List.getElem_mem hmt); rw [rd_eq hmt]; omega⟩
        rw [hcn] at hcm
        have HCN := Lib.hid hcn
        subst hao2
        clear hc2 hcn
        have hcN : c < N := by have := HIN.out _ (List.getElem_mem hmt); have h2 := HCN.out; rw [rd_eq hmt] at h2; omega
        have hed : Ed (E.map (·.2.2)) i c := by
          show (c : Int) ∈ _
          rw [HRZ.out, ← HCN.out, rd_eq hmt]
          exact List.getElem_mem hmt
        have hni : ∀ j, (j = c ∨ Way (E.map (·.2.2)) c j) → j ≠ i := fun j hj e => by
          subst e
          have hw : Way (E.map (·.2.2)) j j := hj.elim (fun h => .one (by rw [h] at hed ⊢; exact hed)) (fun h => .more hed h)
          exact HC.out ⟨j, hw, hw⟩
        have hlt : behindN N (E.map (·.2.2)) c < k := Nat.lt_of_lt_of_le (behindN_lt HI.out hed HC.out) (Nat.le_of_lt_succ hk)
        have hok' : ∀ j, j < N → (j = c ∨ Way (E.map (·.2.2)) c j) → rd o j = -1 ∨ rd o j = V j := fun j hj hw => by
          rcases HOJ.out j hj (hni j hw) with h | ⟨_, h⟩
          · rw [h]
            exact HK.out j hj (.inr (hw.elim (fun e => by rw [e]; exact .one hed) (fun h => .more hed h)))
          · exact .inr h
        have HOK := Lib.hid hok'
        clear hok'
        by_cases c6 : V c = 6
        · have h6 : (V c == 6) = true := by simpa using c6
          have C6 := Lib.hid c6
          clear c6
          go_wp2_with (first | go_skip | go_big_skip | go_big_guard | (refine wpList_ldl hS rfl rfl rfl (by simp) ?_) | (refine wpList_ldi hS rfl rfl rfl (by simp) (by (try simp only [List.length_set]); omega) ?_) | (refine wpList_ldo hS rfl rfl rfl (by with_reducible assumption) (by simp) ?_) | (go_at_call 18; refine (IH.out c o _ hlt hcN HOL.out HOK.out hS).mono ?_; rintro e w' ⟨o', rfl, hS', hl', hc', hj'⟩; clear hS; have hS := hS'; clear hS'; have HL1 := Lib.hid hl'; have HC1 := Lib.hid hc'; have HJ1 := Lib.hid hj'; have hio' : i < o'.length := (by omega); have HOI' := Lib.hid (show rd o' i = rd o i from ((HJ1.out i hi).resolve_right fun h => hni i h.1 rfl)); clear hl' hc' hj'; have h5' : (rd o' i == 5) = (rd o i == 5) := by rw [HOI'.out]) | (refine wpList_sti hS rfl rfl rfl rfl (by simp) (by (try simp only [List.length_map, List.length_set]); omega) ?_; clear hS; intro w1 hS))
          go_roundg (rz.length - (m + 1))
          case rel =>
            have hnew : ∀ j, j < N → j ≠ i → rd o' j = rd out j ∨ (Way (E.map (·.2.2)) i j ∧ rd o' j = V j) := fun j hj hne => by
              rcases HJ1.out j hj with h | ⟨h1, h2⟩
              · rw [h]; exact HOJ.out j hj hne
              · exact .inr ⟨h1.elim (fun e => by rw [e]; exact .one hed) (fun h => .more hed h), h2⟩
            have hbend : bends (rd O i) ((rz.take (m + 1)).map fun x => V x.toNat) = bend (rd o i) (V c) := by
              rw [List.take_succ_eq_append_getElem hmt, List.map_append, List.map_cons, List.map_nil, bends_snoc, HOI.out]
              congr 1
              have := HCN.out
              rw [rd_eq hmt] at this
              rw [this]
              rfl
            have hl1 := HL1.out
            refine ⟨m + 1, o'.set i (6), by omega, rfl, by go_num, by simpa using hl1, ?_, fun j hj hne => ?_, hS⟩
            · rw [rd_set (by omega), if_pos rfl, hbend]; simp [bend, C6.out]
            · rw [rd_set (by omega), if_neg hne]; exact hnew j hj hne
          case measure => omega
        have h6 : (V c == 6) = false := by simpa using c6
        have C6 := Lib.hid c6
        clear c6
        by_cases c0 : V c = 0
        · have h0 : (V c == 0) = true := by simpa using c0
          have C0 := Lib.hid c0
          clear c0
          by_cases c5 : rd o i = 5
          · have h5 : (rd o i == 5) = true := by simpa using c5
            have C5 := Lib.hid c5
            clear c5
            go_wp2_with (first | go_skip | go_big_skip | go_big_guard | (refine wpList_ldl hS rfl rfl rfl (by simp) ?_) | (refine wpList_ldi hS rfl rfl rfl (by simp) (by (try simp only [List.length_set]); omega) ?_) | (refine wpList_ldo hS rfl rfl rfl (by with_reducible assumption) (by simp) ?_) | (go_at_call 18; refine (IH.out c o _ hlt hcN HOL.out HOK.out hS).mono ?_; rintro e w' ⟨o', rfl, hS', hl', hc', hj'⟩; clear hS; have hS := hS'; clear hS'; have HL1 := Lib.hid hl'; have HC1 := Lib.hid hc'; have HJ1 := Lib.hid hj'; have hio' : i < o'.length := (by omega); have HOI' := Lib.hid (show rd o' i = rd o i from ((HJ1.out i hi).resolve_right fun h => hni i h.1 rfl)); clear hl' hc' hj'; have h5' : (rd o' i == 5) = (rd o i == 5) := by rw [HOI'.out]) | (refine wpList_sti hS rfl rfl rfl rfl (by simp) (by (try simp only [List.length_map, List.length_set]); omega) ?_; clear hS; intro w1 hS))
            go_roundg (rz.length - (m + 1))
            case rel =>
              have hnew : ∀ j, j < N → j ≠ i → rd o' j = rd out j ∨ (Way (E.map (·.2.2)) i j ∧ rd o' j = V j) := fun j hj hne => by
                rcases HJ1.out j hj with h | ⟨h1, h2⟩
                · rw [h]; exact HOJ.out j hj hne
                · exact .inr ⟨h1.elim (fun e => by rw [e]; exact .one hed) (fun h => .more hed h), h2⟩
              have hbend : bends (rd O i) ((rz.take (m + 1)).map fun x => V x.toNat) = bend (rd o i) (V c) := by
                rw [List.take_succ_eq_append_getElem hmt, List.map_append, List.map_cons, List.map_nil, bends_snoc, HOI.out]
                congr 1
                have := HCN.out
                rw [rd_eq hmt] at this
                rw [this]
                rfl
              have hl1 := HL1.out
              refine ⟨m + 1, o'.set i (0), by omega, rfl, by go_num, by simpa using hl1, ?_, fun j hj hne => ?_, hS⟩
              · rw [rd_set (by omega), if_pos rfl, hbend]; simp [bend, C0.out, C5.out]
              · rw [rd_set (by omega), if_neg hne]; exact hnew j hj hne
            case measure => omega
          · have h5 : (rd o i == 5) = false := by simpa using c5
            have C5 := Lib.hid c5
            clear c5
            go_wp2_with (first | go_skip | go_big_skip | go_big_guard | (refine wpList_ldl hS rfl rfl rfl (by simp) ?_) | (refine wpList_ldi hS rfl rfl rfl (by simp) (by (try simp only [List.length_set]); omega) ?_) | (refine wpList_ldo hS rfl rfl rfl (by with_reducible assumption) (by simp) ?_) | (go_at_call 18; refine (IH.out c o _ hlt hcN HOL.out HOK.out hS).mono ?_; rintro e w' ⟨o', rfl, hS', hl', hc', hj'⟩; clear hS; have hS := hS'; clear hS'; have HL1 := Lib.hid hl'; have HC1 := Lib.hid hc'; have HJ1 := Lib.hid hj'; have hio' : i < o'.length := (by omega); have HOI' := Lib.hid (show rd o' i = rd o i from ((HJ1.out i hi).resolve_right fun h => hni i h.1 rfl)); clear hl' hc' hj'; have h5' : (rd o' i == 5) = (rd o i == 5) := by rw [HOI'.out]))
            go_roundg (rz.length - (m + 1))
            case rel =>
              have hnew : ∀ j, j < N → j ≠ i → rd o' j = rd out j ∨ (Way (E.map (·.2.2)) i j ∧ rd o' j = V j) := fun j hj hne => by
                rcases HJ1.out j hj with h | ⟨h1, h2⟩
                · rw [h]; exact HOJ.out j hj hne
                · exact .inr ⟨h1.elim (fun e => by rw [e]; exact .one hed) (fun h => .more hed h), h2⟩
              have hbend : bends (rd O i) ((rz.take (m + 1)).map fun x => V x.toNat) = bend (rd o i) (V c) := by
                rw [List.take_succ_eq_append_getElem hmt, List.map_append, List.map_cons, List.map_nil, bends_snoc, HOI.out]
                congr 1
                have := HCN.out
                rw [rd_eq hmt] at this
                rw [this]
                rfl
              exact ⟨m + 1, o', by omega, rfl, by go_num, HL1.out, by rw [HOI'.out, hbend]; simp [bend, C0.out, C5.out], hnew, hS⟩
            case measure => omega
        · have h0 : (V c == 0) = false := by simpa using c0
          have C0 := Lib.hid c0
          clear c0
          go_wp2_with (first | go_skip | go_big_skip | go_big_guard | (refine wpList_ldl hS rfl rfl rfl (by simp) ?_) | (refine wpList_ldi hS rfl rfl rfl (by simp) (by (try simp only [List.length_set]); omega) ?_) | (refine wpList_ldo hS rfl rfl rfl (by with_reducible assumption) (by simp) ?_) | (go_at_call 18; refine (IH.out c o _ hlt hcN HOL.out HOK.out hS).mono ?_; rintro e w' ⟨o', rfl, hS', hl', hc', hj'⟩; clear hS; have hS := hS'; clear hS'; have HL1 := Lib.hid hl'; have HC1 := Lib.hid hc'; have HJ1 := Lib.hid hj'; have hio' : i < o'.length := (by omega); have HOI' := Lib.hid (show rd o' i = rd o i from ((HJ1.out i hi).resolve_right fun h => hni i h.1 rfl)); clear hl' hc' hj'; have h5' : (rd o' i == 5) = (rd o i == 5) := by rw [HOI'.out]))
          go_roundg (rz.length - (m + 1))
          case rel =>
            have hnew : ∀ j, j < N → j ≠ i → rd o' j = rd out j ∨ (Way (E.map (·.2.2)) i j ∧ rd o' j = V j) := fun j hj hne => by
              rcases HJ1.out j hj with h | ⟨h1, h2⟩
              · rw [h]; exact HOJ.out j hj hne
              · exact .inr ⟨h1.elim (fun e => by rw [e]; exact .one hed) (fun h => .more hed h), h2⟩
            have hbend : bends (rd O i) ((rz.take (m + 1)).map fun x => V x.toNat) = bend (rd o i) (V c) := by
              rw [List.take_succ_eq_append_getElem hmt, List.map_append, List.map_cons, List.map_nil, bends_snoc, HOI.out]
              congr 1
              have := HCN.out
              rw [rd_eq hmt] at this
              rw [this]
              rfl
            exact ⟨m + 1, o', by omega, rfl, by go_num, HL1.out, by rw [HOI'.out, hbend]; simp [bend, C0.out, C6.out], hnew, hS⟩
          case measure => omega
      · go_wp2_with (first | go_skip | go_big_skip | go_big_guard | (refine wpList_ldl hS rfl rfl rfl (by simp) ?_) | (refine wpList_ldi hS rfl rfl rfl (by simp) (by (try simp only [List.length_set]); omega) ?_))
        go_ret
        have hmr : rz.take m = rz := List.take_of_length_le (by omega)
        have hv : rd o i = V i := by
          have := HOI.out
          rw [hmr] at this
          rw [this, hV.own i hi HC.out, HRZ.out]
          rfl
        refine ⟨o, by rw [← hv]; rfl, hS, HOL.out, hv, fun j hj => ?_⟩
        by_cases e : j = i
        · subst e; exact .inr ⟨.inl rfl, hv⟩
        · exact (HOJ.out j hj e).imp id fun h => ⟨.inr h.1, h.2⟩

end Go.Proofs.Ytecegbgebefheaa
