/- Verdicts by rounds, until nothing changes: plain lemmas. -/
import Derived.Test.YtecegbgebefheaaLaw
import Derived.Test.YtecegbgebefheaaAloneM
set_option linter.unusedSimpArgs false
set_option linter.unusedVariables false
namespace Go.Proofs.Ytecegbgebefheaa
open Go.Sep

def sixB (out : List Int) (o : Int) (l : List Int) : Bool := (o == 6) || l.any fun x => rd out x.toNat == 6
def fiveB (out : List Int) (o : Int) (l : List Int) : Bool := (o == 5) && l.all fun x => rd out x.toNat == 5

theorem sixB_succ (out : List Int) (o : Int) (l : List Int) (m : Nat) (h : m < l.length) : sixB out o (l.take (m + 1)) = (sixB out o (l.take m) || (rd out (rd l m).toNat == 6)) := by
  unfold sixB
  rw [List.take_succ_eq_append_getElem h, List.any_append, rd_eq h, ← Bool.or_assoc]
  simp
theorem fiveB_succ (out : List Int) (o : Int) (l : List Int) (m : Nat) (h : m < l.length) : fiveB out o (l.take (m + 1)) = (fiveB out o (l.take m) && (rd out (rd l m).toNat == 5)) := by
  unfold fiveB
  rw [List.take_succ_eq_append_getElem h, List.all_append, rd_eq h, ← Bool.and_assoc]
  simp

/-- What is known of a list of verdicts under way. -/
structure Way2 (n : Nat) (E : List (List Int)) (V : Nat → Int) (out : List Int) : Prop where
  len : out.length = n
  cyc : ∀ i, i < n → Cyc E i → rd out i = 7
  own : ∀ i, i < n → ¬ Cyc E i → rd out i = 0 ∨ rd out i = V i

def zeros (out : List Int) : Nat := out.countP fun v => v == 0

theorem zeros_set {out : List Int} {i : Nat} {v : Int} (h : i < out.length) (h0 : rd out i = 0) (hv : v ≠ 0) : zeros (out.set i v) < zeros out := by
  induction out generalizing i with
  | nil => simp at h
  | cons z out ih =>
    cases i with
    | zero =>
      simp only [rd, List.getD_cons_zero] at h0
      subst h0
      simp [zeros, hv]
    | succ i =>
      have := ih (i := i) (by simpa using h) (by simpa [rd] using h0)
      unfold zeros at this ⊢
      rw [List.set_cons_succ, List.countP_cons, List.countP_cons]
      omega

theorem Way2.six {n : Nat} {E : List (List Int)} {O : List Int} {V : Nat → Int} {out : List Int} (hg : Good n E O) (hV : Sol n E O V) (h : Way2 n E V out) {i : Nat} (hi : i < n) (h0 : rd out i = 0) (hf : sixB out (O.getD i 0) (E.getD i []) = true) : Way2 n E V (out.set i 6) := by
  have hl : i < out.length := by rw [h.len]; exact hi
  have hc : ¬ Cyc E i := fun hc => by have := h.cyc i hi hc; omega
  have hv : V i = 6 := by
    rw [hV.own i hi hc, bends_eq]
    unfold sixB at hf
    rw [Bool.or_eq_true] at hf
    rcases hf with hf | hf
    · have : O.getD i 0 = 6 := by simpa using hf
      rw [this]
      split
      · rfl
      · simp
    · rw [List.any_eq_true] at hf
      obtain ⟨x, hx, hx6⟩ := hf
      have hx6' : rd out x.toNat = 6 := by simpa using hx6
      have hb := hg.inside.row i x hx
      rw [if_pos]
      refine List.mem_map.2 ⟨x, hx, ?_⟩
      have hcx : ¬ Cyc E x.toNat := fun hcx => hc (hcx.of_edge (hg.inside.ed hx))
      rcases h.own x.toNat (by omega) hcx with e | e
      · omega
      · omega
  refine ⟨by simp [h.len], fun j hj hcj => ?_, fun j hj hcj => ?_⟩
  · rw [rd_set hl, if_neg (fun e : j = i => hc (e ▸ hcj))]
    exact h.cyc j hj hcj
  · rw [rd_set hl]
    split
    · rename_i e; subst e; exact .inr hv.symm
    · exact h.own j hj hcj

theorem Way2.five {n : Nat} {E : List (List Int)} {O : List Int} {V : Nat → Int} {out : List Int} (hg : Good n E O) (hV : Sol n E O V) (h : Way2 n E V out) {i : Nat} (hi : i < n) (h0 : rd out i = 0) (hf : fiveB out (O.getD i 0) (E.getD i []) = true) : Way2 n E V (out.set i 5) := by
  have hl : i < out.length := by rw [h.len]; exact hi
  have hc : ¬ Cyc E i := fun hc => by have := h.cyc i hi hc; omega
  unfold fiveB at hf
  rw [Bool.and_eq_true] at hf
  have ho : O.getD i 0 = 5 := by simpa using hf.1
  have hall := List.all_eq_true.1 hf.2
  have hv : V i = 5 := by
    rw [hV.own i hi hc, bends_eq, ho]
    have hvs : ∀ v ∈ (E.getD i []).map (fun x => V x.toNat), v = 5 := by
      intro v hv
      obtain ⟨x, hx, rfl⟩ := List.mem_map.1 hv
      have hx5 : rd out x.toNat = 5 := by simpa using hall x hx
      have hb := hg.inside.row i x hx
      have hcx : ¬ Cyc E x.toNat := fun hcx => hc (hcx.of_edge (hg.inside.ed hx))
      rcases h.own x.toNat (by omega) hcx with e | e
      · omega
      · omega
    rw [if_neg (fun h6 => by have := hvs _ h6; omega), if_neg (fun h0 => by have := hvs _ h0.2; omega)]
  refine ⟨by simp [h.len], fun j hj hcj => ?_, fun j hj hcj => ?_⟩
  · rw [rd_set hl, if_neg (fun e : j = i => hc (e ▸ hcj))]
    exact h.cyc j hj hcj
  · rw [rd_set hl]
    split
    · rename_i e; subst e; exact .inr hv.symm
    · exact h.own j hj hcj

/-- Is one of the first k both? -/
def bothB (Y Z : List Bool) (k : Nat) : Bool := (List.range k).any fun q => bt Y q && bt Z q

theorem bothB_succ (Y Z : List Bool) (k : Nat) : bothB Y Z (k + 1) = (bothB Y Z k || (bt Y k && bt Z k)) := by
  unfold bothB
  rw [List.range_succ, List.any_append]
  simp

theorem bothB_cyc {n i : Nat} {E : List (List Int)} {Y Z : List Bool} (hI : Inside n E) (hY : ∀ j, bt Y j = true ↔ Way E i j) (hZ : ∀ j, j < n → (bt Z j = true ↔ Way E j j)) : bothB Y Z n = true ↔ Cyc E i := by
  unfold bothB
  rw [List.any_eq_true]
  constructor
  · rintro ⟨j, hj, h⟩
    rw [Bool.and_eq_true] at h
    have hjn := List.mem_range.1 hj
    exact ⟨j, (hY j).1 h.1, (hZ j hjn).1 h.2⟩
  · rintro ⟨j, h1, h2⟩
    have hjn := h1.end_lt hI
    exact ⟨j, List.mem_range.2 hjn, by rw [Bool.and_eq_true]; exact ⟨(hY j).2 h1, (hZ j hjn).2 h2⟩⟩

/-- The first i told whether they reach a circle; of task i as much as b says. -/
structure Way1 (n : Nat) (E : List (List Int)) (i : Nat) (b : Bool) (out : List Int) : Prop where
  len : out.length = n
  cyc : ∀ j, j < i → j < n → Cyc E j → rd out j = 7
  own : ∀ j, j < i → j < n → ¬ Cyc E j → rd out j = 0
  here : i < n → rd out i = if b = true then 7 else 0
  rest : ∀ j, i < j → j < n → rd out j = 0

theorem Way1.start (n : Nat) (E : List (List Int)) : Way1 n E 0 false (List.replicate n 0) := by
  refine ⟨by simp, fun j h => by omega, fun j h => by omega, fun h => by simp [rd, h], fun j _ h => by simp [rd, h]⟩

theorem Way1.mark {n i : Nat} {E : List (List Int)} {b : Bool} {out : List Int} (h : Way1 n E i b out) (hi : i < n) : Way1 n E i true (out.set i 7) := by
  have hl : i < out.length := by rw [h.len]; exact hi
  refine ⟨by simp [h.len], fun j hj hn hc => ?_, fun j hj hn hc => ?_, fun _ => by rw [rd_set hl, if_pos rfl]; rfl, fun j hj hn => ?_⟩
  · rw [rd_set hl, if_neg (by omega)]; exact h.cyc j hj hn hc
  · rw [rd_set hl, if_neg (by omega)]; exact h.own j hj hn hc
  · rw [rd_set hl, if_neg (by omega)]; exact h.rest j hj hn

theorem Way1.next {n i : Nat} {E : List (List Int)} {b : Bool} {out : List Int} (h : Way1 n E i b out) (hi : i < n) (hb : b = true ↔ Cyc E i) : Way1 n E (i + 1) false out := by
  refine ⟨h.len, fun j hj hn hc => ?_, fun j hj hn hc => ?_, fun hn => by rw [h.rest (i + 1) (by omega) hn]; rfl, fun j hj hn => h.rest j (by omega) hn⟩
  · by_cases e : j = i
    · subst e; rw [h.here hi, if_pos (hb.2 hc)]
    · exact h.cyc j (by omega) hn hc
  · by_cases e : j = i
    · subst e; rw [h.here hi, if_neg (fun e => hc (hb.1 e))]
    · exact h.own j (by omega) hn hc

theorem Way1.way2 {n : Nat} {E : List (List Int)} {b : Bool} {out : List Int} (h : Way1 n E n b out) (V : Nat → Int) : Way2 n E V out := ⟨h.len, fun i hi hc => h.cyc i hi hi hc, fun i hi hc => .inl (h.own i hi hi hc)⟩

/-- Nothing to be done for i. -/
def Still (E : List (List Int)) (O out : List Int) (i : Nat) : Prop := rd out i = 0 → sixB out (O.getD i 0) (E.getD i []) = false ∧ fiveB out (O.getD i 0) (E.getD i []) = false

/-- A pass under way: i tasks looked at; c: has anything changed? -/
def Pass (E : List (List Int)) (O out : List Int) (i : Nat) (c : Bool) (out2 : List Int) : Prop := (c = true → zeros out2 < zeros out) ∧ (c = false → out2 = out ∧ ∀ j, j < i → Still E O out j)

theorem Pass.start (E : List (List Int)) (O out : List Int) : Pass E O out 0 false out := ⟨fun h => (by cases h), fun _ => ⟨rfl, fun j h => by omega⟩⟩

theorem Pass.still {E : List (List Int)} {O out out2 : List Int} {i : Nat} {c : Bool} (h : Pass E O out i c out2) (hs : Still E O out2 i) : Pass E O out (i + 1) c out2 := by
  refine ⟨h.1, fun hc => ?_⟩
  obtain ⟨rfl, h2⟩ := h.2 hc
  refine ⟨rfl, fun j hj => ?_⟩
  by_cases e : j = i
  · subst e; exact hs
  · exact h2 j (by omega)

theorem Pass.turn {E : List (List Int)} {O out out2 : List Int} {i : Nat} {c : Bool} {v : Int} (h : Pass E O out i c out2) (hl : i < out2.length) (h0 : rd out2 i = 0) (hv : v ≠ 0) : Pass E O out (i + 1) true (out2.set i v) := by
  have hz := zeros_set hl h0 hv
  refine ⟨fun _ => ?_, fun hc => by cases hc⟩
  cases c with
  | true => exact Nat.lt_trans hz (h.1 rfl)
  | false => rw [← (h.2 rfl).1]; exact hz

theorem Way2.done {n : Nat} {E : List (List Int)} {O : List Int} {V : Nat → Int} {out : List Int} (hg : Good n E O) (hV : Sol n E O V) (h : Way2 n E V out) (hs : ∀ i, i < n → Still E O out i) : ∀ i, i < n → rd out i = V i := by
  suffices ∀ k i, behindN n E i < k → i < n → rd out i = V i from fun i hi => this _ i (Nat.lt_succ_self _) hi
  intro k
  induction k with
  | zero => intro i h; omega
  | succ k ih =>
    intro i hk hi
    by_cases hc : Cyc E i
    · rw [h.cyc i hi hc, hV.cyc i hi hc]
    · rcases h.own i hi hc with h0 | h0
      · have hst := hs i hi h0
        have hx : ∀ x ∈ E.getD i [], rd out x.toNat = V x.toNat := fun x hx => by
          have hb := hg.inside.row i x hx
          exact ih _ (Nat.lt_of_lt_of_le (behindN_lt hg.inside (hg.inside.ed hx) hc) (Nat.le_of_lt_succ hk)) (by omega)
        have hval : ∀ x ∈ E.getD i [], V x.toNat = 0 ∨ V x.toNat = 5 ∨ V x.toNat = 6 := fun x hx => by
          have hb := hg.inside.row i x hx
          exact hV.vals hg.at x.toNat (by omega) fun hcx => hc (hcx.of_edge (hg.inside.ed hx))
        have h6 : ¬ O.getD i 0 = 6 ∧ ∀ x ∈ E.getD i [], V x.toNat ≠ 6 := by
          have := hst.1
          unfold sixB at this
          rw [Bool.or_eq_false_iff, List.any_eq_false] at this
          refine ⟨by simpa using this.1, fun x hxm e => this.2 x hxm ?_⟩
          rw [hx x hxm, e]
          rfl
        rw [h0, hV.own i hi hc, bends_eq, if_neg (fun hm => by obtain ⟨x, hxm, e⟩ := List.mem_map.1 hm; exact h6.2 x hxm e)]
        by_cases ho : O.getD i 0 = 5
        · rw [ho]
          have hz : (0 : Int) ∈ (E.getD i []).map (fun x => V x.toNat) := by
            refine Classical.byContradiction fun hn => ?_
            have h5 := hst.2
            have : fiveB out (O.getD i 0) (E.getD i []) = true := by
              unfold fiveB
              rw [ho, Bool.and_eq_true, List.all_eq_true]
              refine ⟨rfl, fun x hxm => ?_⟩
              rw [hx x hxm]
              rcases hval x hxm with e | e | e
              · exact absurd (List.mem_map.2 ⟨x, hxm, e⟩) hn
              · rw [e]; rfl
              · exact absurd e (h6.2 x hxm)
            rw [this] at h5
            cases h5
          rw [if_pos ⟨rfl, hz⟩]
        · rw [if_neg (fun e => ho e.1)]
          rcases hg.at i hi with e | e | e
          · exact e.symm
          · exact absurd e ho
          · exact absurd e h6.1
      · exact h0

end Go.Proofs.Ytecegbgebefheaa
