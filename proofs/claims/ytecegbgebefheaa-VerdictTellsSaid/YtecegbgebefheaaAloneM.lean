/- What a task becomes hangs on whom it reaches alone; closures in rounds: plain lemmas. -/
import Derived.Test.YtecegbgebefheaaMadeM
set_option linter.unusedSimpArgs false
set_option linter.unusedVariables false
namespace Go.Proofs.Ytecegbgebefheaa

def bt (Z : List Bool) (i : Nat) : Bool := Z.getD i false

theorem bt_get {Z : List Bool} {i : Nat} (h : i < Z.length) : Z[i]? = some (bt Z i) := by simp [bt, h]

theorem bt_set {Z : List Bool} {i j : Nat} {v : Bool} (h : i < Z.length) : bt (Z.set i v) j = if j = i then v else bt Z j := by
  unfold bt
  by_cases e : j = i
  · subst e; simp [h]
  · simp [e, Ne.symm e]

theorem bt_lt {Z : List Bool} {i : Nat} (h : bt Z i = true) : i < Z.length := by
  refine Classical.byContradiction fun hn => ?_
  simp [bt, List.getElem?_eq_none (Nat.le_of_not_lt hn)] at h

theorem bt_ext {Y Z : List Bool} (h : Y.length = Z.length) (hb : ∀ i, bt Y i = bt Z i) : Y = Z := by
  apply List.ext_getElem h
  intro i h1 h2
  have := hb i
  simpa [bt, h1, h2] using this

def cnt (Z : List Bool) : Nat := Z.countP fun b => b

theorem cnt_le (Z : List Bool) : cnt Z ≤ Z.length := List.countP_le_length

theorem cnt_mono : ∀ (Y Z : List Bool), Y.length = Z.length → (∀ i, bt Y i = true → bt Z i = true) → cnt Y ≤ cnt Z
  | [], [], _, _ => Nat.le_refl _
  | y :: Y, z :: Z, hl, h => by
    have h0 := h 0
    have ht := cnt_mono Y Z (by simpa using hl) fun i hi => by simpa [bt] using h (i + 1) (by simpa [bt] using hi)
    simp only [bt, List.getD_cons_zero] at h0
    unfold cnt at ht ⊢
    rw [List.countP_cons, List.countP_cons]
    cases y <;> cases z <;> simp at h0 ⊢ <;> omega

theorem cnt_lt : ∀ (Y Z : List Bool), Y.length = Z.length → (∀ i, bt Y i = true → bt Z i = true) → (∃ i, bt Y i = false ∧ bt Z i = true) → cnt Y < cnt Z
  | [], [], _, _, ⟨i, _, h⟩ => by simp [bt] at h
  | y :: Y, z :: Z, hl, h, ⟨i, h1, h2⟩ => by
    have h0 := h 0
    have hl' : Y.length = Z.length := by simpa using hl
    have hm : ∀ i, bt Y i = true → bt Z i = true := fun i hi => by simpa [bt] using h (i + 1) (by simpa [bt] using hi)
    have hle := cnt_mono Y Z hl' hm
    simp only [bt, List.getD_cons_zero] at h0
    cases i with
    | zero =>
      simp only [bt, List.getD_cons_zero] at h1 h2
      subst h1 h2
      unfold cnt at hle ⊢
      rw [List.countP_cons, List.countP_cons]
      simp
      omega
    | succ i =>
      have hlt := cnt_lt Y Z hl' hm ⟨i, by simpa [bt] using h1, by simpa [bt] using h2⟩
      unfold cnt at hlt ⊢
      rw [List.countP_cons, List.countP_cons]
      cases y <;> cases z <;> simp at h0 ⊢ <;> omega

/-- Whoever is in leads to those that are in. -/
def Closed (E : List (List Int)) (Z : List Bool) : Prop := ∀ i, bt Z i = true → ∀ x ∈ E.getD i [], bt Z x.toNat = true

/-- One round, its first j tasks done. -/
structure Rnd (E : List (List Int)) (n : Nat) (Z0 : List Bool) (j : Nat) (Z : List Bool) : Prop where
  len : Z.length = n
  up : ∀ i, bt Z0 i = true → bt Z i = true
  did : ∀ i, i < j → bt Z0 i = true → ∀ x ∈ E.getD i [], bt Z x.toNat = true
  same : Closed E Z0 → Z = Z0

structure Out (E : List (List Int)) (n k r : Nat) (Z : List Bool) : Prop where
  len : Z.length = n
  here : bt Z k = true
  more : Closed E Z ∨ r + 1 ≤ cnt Z

theorem Out.rnd {E : List (List Int)} {n k r : Nat} {Z : List Bool} (h : Out E n k r Z) : Rnd E n Z 0 Z := ⟨h.len, fun _ h => h, fun i hi => by omega, fun _ => rfl⟩

theorem Out.next {E : List (List Int)} {n k r : Nat} {Z0 Z : List Bool} (h : Out E n k r Z0) (d : Rnd E n Z0 n Z) : Out E n k (r + 1) Z := by
  refine ⟨d.len, d.up _ h.here, ?_⟩
  by_cases hc : Closed E Z0
  · rw [d.same hc]; exact .inl hc
  · right
    obtain ⟨i, hi⟩ := Classical.not_forall.1 hc
    obtain ⟨h1, h2⟩ := Classical.not_imp.1 hi
    obtain ⟨x, h3⟩ := Classical.not_forall.1 h2
    obtain ⟨hx, h4⟩ := Classical.not_imp.1 h3
    have hin : i < n := by have := bt_lt h1; have := h.len; omega
    have := cnt_lt Z0 Z (by rw [h.len, d.len]) d.up ⟨x.toNat, by simpa using h4, d.did i hin h1 x hx⟩
    have hr := h.more.resolve_left hc
    omega

theorem Out.closed {E : List (List Int)} {n k : Nat} {Z : List Bool} (h : Out E n k n Z) : Closed E Z := by
  rcases h.more with h1 | h1
  · exact h1
  · have := cnt_le Z
    have := h.len
    omega

theorem Out.start {E : List (List Int)} {n k : Nat} (hk : k < n) : Out E n k 0 ((List.replicate n false).set k true) := by
  have hl : k < (List.replicate n false).length := by simpa using hk
  have hb : bt ((List.replicate n false).set k true) k = true := by rw [bt_set hl, if_pos rfl]
  refine ⟨by simp, hb, .inr ?_⟩
  have := cnt_lt (List.replicate n false) ((List.replicate n false).set k true) (by simp) (fun i hi => by rw [bt_set hl]; split; rfl; exact hi) ⟨k, by simp [bt, hk], hb⟩
  omega

theorem Rnd.skip {E : List (List Int)} {n j : Nat} {Z0 Z : List Bool} (h : Rnd E n Z0 j Z) (hj : bt Z j = false) : Rnd E n Z0 (j + 1) Z := by
  refine ⟨h.len, h.up, fun i hi h0 => ?_, h.same⟩
  by_cases e : i = j
  · subst e
    have := h.up _ h0
    rw [hj] at this
    cases this
  · exact h.did i (by omega) h0

theorem Rnd.all {E : List (List Int)} {n j : Nat} {Z0 Z : List Bool} (h : Rnd E n Z0 j Z) (ha : ∀ x ∈ E.getD j [], bt Z x.toNat = true) : Rnd E n Z0 (j + 1) Z := by
  refine ⟨h.len, h.up, fun i hi h0 => ?_, h.same⟩
  by_cases e : i = j
  · subst e; exact ha
  · exact h.did i (by omega) h0

theorem Rnd.mark {E : List (List Int)} {n j : Nat} {Z0 Z : List Bool} (h : Rnd E n Z0 j Z) (hj : bt Z j = true) {x : Int} (hx : x ∈ E.getD j []) (hn : x.toNat < n) : Rnd E n Z0 j (Z.set x.toNat true) := by
  have hl : x.toNat < Z.length := by rw [h.len]; exact hn
  refine ⟨by simp [h.len], fun i hi => ?_, fun i hi h0 y hy => ?_, fun hc => ?_⟩
  · rw [bt_set hl]; split; rfl; exact h.up i hi
  · rw [bt_set hl]; split; rfl; exact h.did i hi h0 y hy
  · have e := h.same hc
    subst e
    have := hc j hj x hx
    apply bt_ext (by simp)
    intro i
    rw [bt_set hl]
    split
    · rename_i e; subst e; exact this.symm
    · rfl

/-! ### The law -/

theorem way_closed {E E' : List (List Int)} {Z : List Bool} (hc : Closed E Z) (he : ∀ i, bt Z i = true → E'.getD i [] = E.getD i []) {i j : Nat} (h : Way E i j) : bt Z i = true → bt Z j = true ∧ Way E' i j := by
  induction h with
  | @one i j h =>
    intro hi
    refine ⟨by simpa using hc i hi _ h, .one ?_⟩
    unfold Ed
    rw [he i hi]
    exact h
  | @more i j k h _ ih =>
    intro hi
    have hj : bt Z j = true := by simpa using hc i hi _ h
    refine ⟨(ih hj).1, .more ?_ (ih hj).2⟩
    unfold Ed
    rw [he i hi]
    exact h

theorem cyc_closed {E E' : List (List Int)} {Z : List Bool} (hc : Closed E Z) (he : ∀ i, bt Z i = true → E'.getD i [] = E.getD i []) {i : Nat} (hi : bt Z i = true) : Cyc E i ↔ Cyc E' i := by
  have hc' : Closed E' Z := fun j hj x hx => hc j hj x (by rwa [he j hj] at hx)
  constructor
  · rintro ⟨j, h1, h2⟩
    have := way_closed hc he h1 hi
    exact ⟨j, this.2, (way_closed hc he h2 this.1).2⟩
  · rintro ⟨j, h1, h2⟩
    have := way_closed hc' (fun i hi => (he i hi).symm) h1 hi
    exact ⟨j, this.2, (way_closed hc' (fun i hi => (he i hi).symm) h2 this.1).2⟩

theorem alone_math {n : Nat} {E E' : List (List Int)} {O O' : List Int} {V V' : Nat → Int} {Z : List Bool} (hI : Inside n E) (hc : Closed E Z) (hz : Z.length = n) (he : ∀ i, bt Z i = true → E'.getD i [] = E.getD i [])
    (ho : ∀ i, bt Z i = true → O'.getD i 0 = O.getD i 0) (h : Sol n E O V) (h' : Sol n E' O' V') : ∀ i, bt Z i = true → V i = V' i := by
  suffices ∀ k i, behindN n E i < k → bt Z i = true → V i = V' i from fun i hi => this _ i (Nat.lt_succ_self _) hi
  intro k
  induction k with
  | zero => intro i h; omega
  | succ k ih =>
    intro i hk hi
    have hin : i < n := by have := bt_lt hi; omega
    by_cases hcy : Cyc E i
    · rw [h.cyc i hin hcy, h'.cyc i hin ((cyc_closed hc he hi).1 hcy)]
    · rw [h.own i hin hcy, h'.own i hin (fun e => hcy ((cyc_closed hc he hi).2 e)), he i hi, ho i hi]
      congr 1
      apply List.map_congr_left
      intro x hx
      exact ih _ (Nat.lt_of_lt_of_le (behindN_lt hI (hI.ed hx) hcy) (Nat.le_of_lt_succ hk)) (hc i hi x hx)

end Go.Proofs.Ytecegbgebefheaa
