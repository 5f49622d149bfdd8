/- The Go function VerdictFixed returns true: its walk. For all arguments that can be read. -/
import Derived.Test.YtecegbgebefheaaLaw
namespace Go.Proofs.Ytecegbgebefheaa
open Go.Sep Go.RowKit

/-- The verdict that the law asks for. -/
def wantOf (o : Int) (d f c : Bool) : Int := if c then 7 else if o = 6 ∨ f then 6 else if o = 5 ∧ d then 5 else 0

def dnB (V : Nat → Int) (l : List Int) : Bool := l.all fun x => V x.toNat == 5
def flB (V : Nat → Int) (l : List Int) : Bool := l.any fun x => V x.toNat == 6
def cyB (V : Nat → Int) (l : List Int) : Bool := l.any fun x => V x.toNat == 7

theorem Good.row {n : Nat} {E : List (List Int)} {O : List Int} (h : Good n E O) {i : Nat} {x : Int} (hx : x ∈ E.getD i []) : 0 ≤ x ∧ x < (n : Int) := h.inside.row i x hx

theorem fixed_math {n : Nat} {E : List (List Int)} {O : List Int} (h : Good n E O) (i : Nat) (hi : i < n) :
    Vd n E O i = wantOf (O.getD i 0) (dnB (Vd n E O) (E.getD i [])) (flB (Vd n E O) (E.getD i [])) (cyB (Vd n E O) (E.getD i [])) := by
  have hs := h.sol
  by_cases hc : Cyc E i
  · rw [hs.cyc i hi hc]
    obtain ⟨j, hj, hcj⟩ := hc.edge
    have hjn := hj.end_lt h.inside
    have : cyB (Vd n E O) (E.getD i []) = true := by
      unfold cyB
      rw [List.any_eq_true]
      exact ⟨j, hj, by simp [hs.cyc j hjn hcj]⟩
    rw [this]
    rfl
  · have hv : ∀ x ∈ E.getD i [], Vd n E O x.toNat = 0 ∨ Vd n E O x.toNat = 5 ∨ Vd n E O x.toNat = 6 := by
      intro x hx
      have hb := h.row hx
      exact hs.vals h.at x.toNat (by omega) fun hcx => hc (hcx.of_edge (h.inside.ed hx))
    have hcy : cyB (Vd n E O) (E.getD i []) = false := by
      unfold cyB
      rw [List.any_eq_false]
      intro x hx
      rcases hv x hx with e | e | e <;> simp [e]
    rw [hcy, hs.own i hi hc, bends_eq]
    have h6 : (6 : Int) ∈ (E.getD i []).map (fun x => Vd n E O x.toNat) ↔ flB (Vd n E O) (E.getD i []) = true := by
      unfold flB
      rw [List.any_eq_true, List.mem_map]
      simp
    have h5 : dnB (Vd n E O) (E.getD i []) = true ↔ ¬ (6 : Int) ∈ (E.getD i []).map (fun x => Vd n E O x.toNat) ∧ ¬ (0 : Int) ∈ (E.getD i []).map (fun x => Vd n E O x.toNat) := by
      unfold dnB
      rw [List.all_eq_true]
      constructor
      · intro ha
        constructor
        · intro hm
          obtain ⟨x, hx, e⟩ := List.mem_map.1 hm
          have := ha x hx
          rw [beq_iff_eq, e] at this
          cases this
        · intro hm
          obtain ⟨x, hx, e⟩ := List.mem_map.1 hm
          have := ha x hx
          rw [beq_iff_eq, e] at this
          cases this
      · rintro ⟨h6, h0⟩ x hx
        rcases hv x hx with e | e | e
        · exact absurd (List.mem_map.2 ⟨x, hx, e⟩) h0
        · simp [e]
        · exact absurd (List.mem_map.2 ⟨x, hx, e⟩) h6
    have ho := h.at i hi
    generalize (E.getD i []).map (fun x => Vd n E O x.toNat) = vs at h6 h5 ⊢
    generalize O.getD i 0 = o at ho ⊢
    generalize flB (Vd n E O) (E.getD i []) = f at h6 ⊢
    generalize dnB (Vd n E O) (E.getD i []) = d at h5 ⊢
    unfold wantOf
    simp only [Bool.false_eq_true, if_false]
    by_cases hf : f = true
    · rw [if_pos (h6.2 hf), if_pos (.inr hf)]
    · rw [if_neg (fun e => hf (h6.1 e))]
      by_cases ho6 : o = 6
      · subst ho6
        simp
      · rw [if_neg (fun e : o = 6 ∨ f = true => e.elim ho6 hf)]
        by_cases hd : d = true
        · have := h5.1 hd
          rw [if_neg (fun e => this.2 e.2)]
          by_cases ho5 : o = 5
          · rw [if_pos ⟨ho5, hd⟩, ho5]
          · rw [if_neg (fun e => ho5 e.1)]
            rcases ho with e | e | e
            · exact e
            · exact absurd e ho5
            · exact absurd e ho6
        · have h0 : (0 : Int) ∈ vs := by
            refine Classical.byContradiction fun hn => hd (h5.2 ⟨fun e => hf (h6.1 e), hn⟩)
          by_cases ho5 : o = 5
          · rw [if_pos ⟨ho5, h0⟩, if_neg (fun e => hd e.2)]
          · rw [if_neg (fun e => ho5 e.1), if_neg (fun e => hd e.2)]
            rcases ho with e | e | e
            · exact e
            · exact absurd e ho5
            · exact absurd e ho6

theorem dnB_succ (V : Nat → Int) (l : List Int) (m : Nat) (h : m < l.length) : dnB V (l.take (m + 1)) = (dnB V (l.take m) && (V (rd l m).toNat == 5)) := by
  unfold dnB
  rw [List.take_succ_eq_append_getElem h, List.all_append, rd_eq h]
  simp
theorem flB_succ (V : Nat → Int) (l : List Int) (m : Nat) (h : m < l.length) : flB V (l.take (m + 1)) = (flB V (l.take m) || (V (rd l m).toNat == 6)) := by
  unfold flB
  rw [List.take_succ_eq_append_getElem h, List.any_append, rd_eq h]
  simp
theorem cyB_succ (V : Nat → Int) (l : List Int) (m : Nat) (h : m < l.length) : cyB V (l.take (m + 1)) = (cyB V (l.take m) || (V (rd l m).toNat == 7)) := by
  unfold cyB
  rw [List.take_succ_eq_append_getElem h, List.any_append, rd_eq h]
  simp

set_option maxRecDepth 100000 in
set_option maxHeartbeats 8000000 in
theorem fixed_any (n0 : Int) (aE aO : Option Addr) (cE cO : Nat) (es : List (Int × Int)) (own : List Int) (w : World) (hE : PairAt w aE es) (hO : RowAt w aO (own.map (Value.int .u8)))
    (hb1 : ∀ p ∈ es, 0 ≤ p.1 ∧ p.1 < 256 ∧ 0 ≤ p.2 ∧ p.2 < 256) (hb2 : Bytes own) (hm1 : es.length ≤ maxLen) (hm2 : own.length ≤ maxLen) :
    Calls Try.prog 4 #[.int .i64 n0, .slice aE es.length cE, .slice aO own.length cO] w fun e w' => e = .returned (.bool true) ∧ Holds w [old w] w' := by
  obtain ⟨n, hn⟩ : ∃ n, n = pickOf n0 65 := ⟨_, rfl⟩
  have hnl : n < 65 := by rw [hn]; exact pickOf_lt n0 65 (by omega)
  have HG := Lib.hid (Good.made es own hnl)
  have hmade := fun w1 (h : Holds w [old w] w1) => made_any n0 n aE aO cE cO es own w1 hn (by
    rcases hE with h0 | ⟨b, off, e, hc⟩
    · exact .inl h0
    · exact .inr ⟨b, off, e, fun i p hi => ⟨h.old_cell (hc i p hi).1, h.old_cell (hc i p hi).2⟩⟩) (hO.keep h) hb1 hb2 hm1 hm2
  have HM := Lib.hid hmade
  clear hmade hE hO hb1 hb2 hm1 hm2 hn
  have hS := Holds.start w
  go_enter Try.func4, Try.ntmps4
  go_wp2_with (first | go_skip | go_big_skip | go_big_guard | (refine wpList_ldal (t := 25) hS rfl rfl rfl (by simp) (Try.sizeOf25 _) ?_) | (refine wpList_sta hS rfl rfl rfl rfl (by simp) (by simp [Value.oneCell']) (by simp) ?_; clear hS; intro w1 hS) | (refine wpList_alloc hS (t := 25) rfl rfl (by simp; rfl) (vs := [.int .i64 0, .slice none 0 0, .slice none 0 0]) rfl ?_; clear hS; intro b8 w1 hS) | (go_at_call 9; refine (shown_any _).mono ?_; rintro e w' ⟨rfl, hS'⟩; replace hS := hS.over hS'; clear hS') | (go_at_call 14; refine (HM.out _ hS).mono ?_; rintro e w' ⟨bE, bO, R, rfl, hR, hS'⟩; replace hS := graftN [_, _, _] hS hS'; simp only [List.cons_append, List.nil_append] at hS; clear hS'; have HR := Lib.hid hR; clear hR))
  have H := of_made (n := n) (bE := bE) (bO := bO) (w := w1) ⟨row_of hS bE, rowsP_at (hS.pick [2])⟩ (row_of hS bO) HR.out HG.out
  have hnn : ((n : Int) != (n : Int)) = false := by simp
  go_wp2_with (first | go_skip | go_big_skip | go_big_guard | (go_at_call 11; refine H.mono ?_; rintro e w5 ⟨bv, out, rfl, hS', hol, hov⟩; replace hS := hS.graft hS'; clear hS' H; have HOL := Lib.hid hol; have HOV := Lib.hid hov; clear hol hov; have c80 : w5.cell? ⟨b8, 0, none⟩ = some (.int .i64 n) := hS.cell b8 0 rfl; have c81 : w5.cell? ⟨b8, 1, none⟩ = some (.slice (some ⟨bE, 0, none⟩) n n) := hS.cell b8 1 rfl; have c82 : w5.cell? ⟨b8, 2, none⟩ = some (.slice (some ⟨bO, 0, none⟩) n n) := hS.cell b8 2 rfl; have HS := Lib.hid hS; clear hS; have hS := Holds.start w5) | (refine wpList_ldo hS rfl rfl rfl (by with_reducible assumption) (by simp) ?_))
  have hcE : ∀ i r, R[i]? = some r → w5.cell? ⟨bE, i, none⟩ = some (Rw.val r) := fun i r h => HS.out.cell bE i (by simp [h])
  have hcR := rowsP_at (HS.out.pick [3])
  have hcO : ∀ i, i < n → w5.cell? ⟨bO, i, none⟩ = some (.int .i64 (rd (madeO n own) i)) := fun i h => HS.out.cell bO i (map_rd _ (by rw [madeO_length]; exact h))
  have hcV : ∀ i, i < n → w5.cell? ⟨bv, i, none⟩ = some (.int .i64 (Vd n (madeE n (es.take 200)) (madeO n own) i)) := fun i h => by
    rw [← HOV.out i h]
    exact HS.out.cell bv i (map_rd _ (by rw [HOL.out]; exact h))
  have HCE := Lib.hid hcE
  have HCR := Lib.hid hcR
  have HCO := Lib.hid hcO
  have HCV := Lib.hid hcV
  have hdone : Holds w [old w] w5 := HS.out.oldOnly
  have HD := Lib.hid hdone
  have hrl : R.length = n := by
    have := congrArg List.length HR.out
    rwa [List.length_map, madeE_length] at this
  have HRL := Lib.hid hrl
  clear hcE hcR hcO hcV hdone hrl HS HM HOL HOV
  generalize madeO n own = O at *
  generalize madeE n (es.take 200) = E at *
  go_loopg [11] n (fun k p wr => ∃ i : Nat, i ≤ n ∧ k = n - i ∧ p = .int .i64 i ∧ w5 = wr)
  case atStart => exact ⟨0, Nat.zero_le _, rfl, rfl, rfl⟩
  case round =>
    obtain ⟨i, hi, rfl, rfl, rfl⟩ := hrel
    by_cases hlt : i < n
    · obtain ⟨r, hr⟩ : ∃ r, R[i]? = some r := ⟨R[i]'(by have := HRL.out; omega), by simp⟩
      have cE := HCE.out i r hr
      have hrow := HCR.out r (List.mem_of_getElem? hr)
      have cO := HCO.out i hlt
      have cV := HCV.out i hlt
      have hEi : E.getD i [] = r.2.2 := by rw [← HR.out]; simp [hr]
      obtain ⟨ra, rc, rz⟩ := r
      simp only [Rw.val] at cE
      dsimp only at hrow hEi
      have hmath := fixed_math HG.out i hlt
      rw [hEi] at hmath
      have hin : ∀ m, m < rz.length → 0 ≤ rd rz m ∧ rd rz m < n := fun m hm => HG.out.row (i := i) (by rw [hEi, rd_eq hm]; exact List.getElem_mem hm)
      have hsh : rz.length ≤ 1000 := HG.out.short rz (by rw [← HR.out]; exact List.mem_map.2 ⟨_, List.mem_of_getElem? hr, rfl⟩)
      have HMA := Lib.hid hmath
      have HIN := Lib.hid hin
      have HROW := Lib.hid hrow
      clear hr hmath hin hrow hEi
      go_wp2_with (first | go_skip | go_big_skip | go_big_guard | (refine wpList_ldo hS rfl rfl rfl (by with_reducible assumption) (by simp) ?_))
      go_loopg [12, 13, 14, 15] rz.length (fun k d f c p wr => ∃ (m : Nat) (d' f' c' : Bool), m ≤ rz.length ∧ k = rz.length - m ∧ p = .int .i64 m ∧ d = .bool d' ∧ f = .bool f' ∧ c = .bool c' ∧ d' = dnB (Vd n E O) (rz.take m) ∧ f' = flB (Vd n E O) (rz.take m) ∧ c' = cyB (Vd n E O) (rz.take m) ∧ w5 = wr)
      case atStart => exact ⟨0, true, false, false, Nat.zero_le _, rfl, rfl, rfl, rfl, rfl, rfl, rfl, rfl, rfl⟩
      case round =>
        obtain ⟨m, d, f, c, hm, rfl, rfl, rfl, rfl, rfl, hd, hf, hc, rfl⟩ := hrel
        have HD1 := Lib.hid hd
        have HF1 := Lib.hid hf
        have HC1 := Lib.hid hc
        clear hd hf hc
        by_cases hmt : m < rz.length
        · obtain ⟨b', off', rfl, hcc⟩ := HROW.out.at (by rw [List.length_map]; omega)
          have cx : w5.cell? ⟨b', off' + m, none⟩ = some (.int .i64 (rd rz m)) := hcc m _ (map_rd _ hmt)
          clear hcc
          obtain ⟨hx1, hx2⟩ := HIN.out m hmt
          obtain ⟨x, hx⟩ : ∃ x : Nat, rd rz m = x := ⟨(rd rz m).toNat, by omega⟩
          have e1 := dnB_succ (Vd n E O) rz m hmt
          have e2 := flB_succ (Vd n E O) rz m hmt
          have e3 := cyB_succ (Vd n E O) rz m hmt
          rw [hx, Int.toNat_natCast] at e1 e2 e3
          rw [← HD1.out] at e1
          rw [← HF1.out] at e2
          rw [← HC1.out] at e3
          rw [hx] at cx hx1 hx2
          have cv := HCV.out x (by omega)
          have E1 := Lib.hid e1
          have E2 := Lib.hid e2
          have E3 := Lib.hid e3
          clear e1 e2 e3 hx HD1 HF1 HC1
          have hxn : x < n := by omega
          clear hx2
          cases d <;> cases f <;> cases c
          all_goals
            go_wp2_with (first | go_skip | go_big_skip | go_big_guard | (refine wpList_ldo hS rfl rfl rfl (by with_reducible assumption) (by simp) ?_))
            go_roundg (rz.length - (m + 1))
            case rel => exact ⟨m + 1, _, _, _, by omega, rfl, by go_num, rfl, rfl, rfl, by rw [E1.out]; rfl, by rw [E2.out]; rfl, by rw [E3.out]; rfl, rfl⟩
            case measure => omega
        · have hmr : rz.take m = rz := List.take_of_length_le (by omega)
          have hv := HMA.out
          have h1 := HD1.out
          have h2 := HF1.out
          have h3 := HC1.out
          rw [hmr] at h1 h2 h3
          rw [← h1, ← h2, ← h3, show O.getD i 0 = rd O i from rfl] at hv
          have ho := HG.out.at i hlt
          rw [show O.getD i 0 = rd O i from rfl] at ho
          clear h1 h2 h3 hmr HD1 HF1 HC1
          rw [hv] at cV
          clear hv
          rcases ho with ho | ho | ho
          all_goals
            rw [ho] at cO cV
            clear ho
            cases d <;> cases f <;> cases c
            all_goals
              simp only [wantOf] at cV
              simp at cV
              go_wp2_with (first | go_skip | go_big_skip | go_big_guard | (refine wpList_ldo hS rfl rfl rfl (by with_reducible assumption) (by simp) ?_))
              go_roundg (n - (i + 1))
              case rel => exact ⟨i + 1, by omega, rfl, by go_num, rfl⟩
              case measure => omega
    · go_wp2_with (first | go_skip | go_big_skip | go_big_guard | (refine wpList_ldo hS rfl rfl rfl (by with_reducible assumption) (by simp) ?_))
      go_ret
      exact ⟨rfl, HD.out⟩

end Go.Proofs.Ytecegbgebefheaa
