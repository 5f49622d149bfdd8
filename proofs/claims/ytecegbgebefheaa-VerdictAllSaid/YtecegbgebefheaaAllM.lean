/- Where all are Done but one, who reaches it is as it is: plain lemmas, with closures in rounds. -/
import Derived.Test.YtecegbgebefheaaAloneM
set_option linter.unusedSimpArgs false
set_option linter.unusedVariables false
namespace Go.Proofs.Ytecegbgebefheaa

/-- Whoever leads to one that is in is in. -/
def PClosed (E : List (List Int)) (Z : List Bool) : Prop := ∀ i, ∀ x ∈ E.getD i [], bt Z x.toNat = true → bt Z i = true

structure PRnd (E : List (List Int)) (n k : Nat) (Z0 : List Bool) (j : Nat) (Z : List Bool) : Prop where
  len : Z.length = n
  up : ∀ i, bt Z0 i = true → bt Z i = true
  did : ∀ i, i < j → ∀ x ∈ E.getD i [], bt Z0 x.toNat = true → bt Z i = true
  same : PClosed E Z0 → Z = Z0
  sound : ∀ i, bt Z i = true → i = k ∨ Way E i k

structure POut (E : List (List Int)) (n k r : Nat) (Z : List Bool) : Prop where
  len : Z.length = n
  here : bt Z k = true
  more : PClosed E Z ∨ r + 1 ≤ cnt Z
  sound : ∀ i, bt Z i = true → i = k ∨ Way E i k

theorem POut.rnd {E : List (List Int)} {n k r : Nat} {Z : List Bool} (h : POut E n k r Z) : PRnd E n k Z 0 Z := ⟨h.len, fun _ h => h, fun i hi => by omega, fun _ => rfl, h.sound⟩

theorem row_lt {E : List (List Int)} {i : Nat} {x : Int} (h : x ∈ E.getD i []) : i < E.length := by
  refine Classical.byContradiction fun hn => ?_
  simp [List.getElem?_eq_none (Nat.le_of_not_lt hn)] at h

theorem POut.next {E : List (List Int)} {n k r : Nat} {Z0 Z : List Bool} (hE : E.length = n) (h : POut E n k r Z0) (d : PRnd E n k Z0 n Z) : POut E n k (r + 1) Z := by
  refine ⟨d.len, d.up _ h.here, ?_, d.sound⟩
  by_cases hc : PClosed E Z0
  · rw [d.same hc]; exact .inl hc
  · right
    obtain ⟨i, hi⟩ := Classical.not_forall.1 hc
    obtain ⟨x, h2⟩ := Classical.not_forall.1 hi
    obtain ⟨hx, h3⟩ := Classical.not_imp.1 h2
    obtain ⟨h4, h5⟩ := Classical.not_imp.1 h3
    have hin : i < n := by have := row_lt hx; omega
    have := cnt_lt Z0 Z (by rw [h.len, d.len]) d.up ⟨i, by simpa using h5, d.did i hin x hx h4⟩
    have hr := h.more.resolve_left hc
    omega

theorem POut.closed {E : List (List Int)} {n k : Nat} {Z : List Bool} (h : POut E n k n Z) : PClosed E Z := by
  rcases h.more with h1 | h1
  · exact h1
  · have := cnt_le Z
    have := h.len
    omega

theorem POut.start {E : List (List Int)} {n k : Nat} (hk : k < n) : POut E n k 0 ((List.replicate n false).set k true) := by
  have h := Out.start (E := E) hk
  refine ⟨h.len, h.here, .inr ?_, fun i hi => .inl ?_⟩
  · have hl : k < (List.replicate n false).length := by simpa using hk
    have := cnt_lt (List.replicate n false) ((List.replicate n false).set k true) (by simp) (fun i hi => by rw [bt_set hl]; split; rfl; exact hi) ⟨k, by simp [bt, hk], h.here⟩
    omega
  · rw [bt_set (by simpa using hk)] at hi
    split at hi
    · assumption
    · have := bt_lt hi
      simp [bt] at hi this
      simp [this] at hi

/-- Behind the first m of task j's edges. -/
theorem PRnd.mark {E : List (List Int)} {n k j : Nat} {Z0 Z : List Bool} (h : PRnd E n k Z0 j Z) (hj : j < n) {x : Int} (hx : x ∈ E.getD j []) (hx0 : 0 ≤ x) : PRnd E n k Z0 j (Z.set j (bt Z j || bt Z x.toNat)) := by
  have hl : j < Z.length := by rw [h.len]; exact hj
  refine ⟨by simp [h.len], fun i hi => ?_, fun i hi y hy h0 => ?_, fun hc => ?_, fun i hi => ?_⟩
  · rw [bt_set hl]; split
    · rename_i e; subst e; rw [h.up _ hi]; rfl
    · exact h.up i hi
  · rw [bt_set hl, if_neg (by omega)]
    exact h.did i hi y hy h0
  · have e := h.same hc
    subst e
    apply bt_ext (by simp)
    intro i
    rw [bt_set hl]
    split
    · rename_i e; subst e
      cases hb : bt Z x.toNat with
      | false => simp
      | true => rw [hc i x hx hb]; rfl
    · rfl
  · rw [bt_set hl] at hi
    split at hi
    · rename_i e; subst e
      rcases Bool.or_eq_true _ _ ▸ hi with h1 | h1
      · exact h.sound _ h1
      · right
        have hed : Ed E i x.toNat := by show ((x.toNat : Nat) : Int) ∈ _; rw [Int.toNat_of_nonneg hx0]; exact hx
        rcases h.sound _ h1 with e | e
        · rw [← e]; exact .one hed
        · exact .more hed e
    · exact h.sound i hi

theorem PRnd.all {E : List (List Int)} {n k j : Nat} {Z0 Z : List Bool} (h : PRnd E n k Z0 j Z) (ha : ∀ x ∈ E.getD j [], bt Z x.toNat = true → bt Z j = true) : PRnd E n k Z0 (j + 1) Z := by
  refine ⟨h.len, h.up, fun i hi x hx h0 => ?_, h.same, h.sound⟩
  by_cases e : i = j
  · subst e; exact ha x hx (h.up _ h0)
  · exact h.did i (by omega) x hx h0

theorem marks_succ {Z : List Bool} {l : List Int} {j m : Nat} (h : ∀ y ∈ l.take m, bt Z y.toNat = true → bt Z j = true) (hm : m < l.length) (hj : j < Z.length) {x : Nat} (hx : l[m].toNat = x) :
    ∀ y ∈ l.take (m + 1), bt (Z.set j (bt Z j || bt Z x)) y.toNat = true → bt (Z.set j (bt Z j || bt Z x)) j = true := by
  intro y hy hb
  rw [bt_set hj, if_pos rfl]
  rw [List.take_succ_eq_append_getElem hm, List.mem_append, List.mem_singleton] at hy
  rw [bt_set hj] at hb
  split at hb
  · exact hb
  · rcases hy with hy | rfl
    · rw [h y hy hb]; rfl
    · rw [hx] at hb
      rw [hb]; simp

theorem reach_iff {E : List (List Int)} {n k : Nat} {Z : List Bool} (h : POut E n k n Z) (i : Nat) : bt Z i = true ↔ (i = k ∨ Way E i k) := by
  refine ⟨h.sound i, fun hw => ?_⟩
  rcases hw with rfl | hw
  · exact h.here
  · have hc := h.closed
    have hh := h.here
    clear h
    induction hw with
    | one hd => exact hc _ _ hd (by simpa using hh)
    | more hd _ ih => exact hc _ _ hd (by simpa using ih hh)

theorem all_first {n : Nat} {E : List (List Int)} {V : Nat → Int} (hI : Inside n E) (h : Sol n E (List.replicate n 5) V) : ∀ i, i < n → ¬ Cyc E i → V i = 5 := by
  suffices ∀ k i, behindN n E i < k → i < n → ¬ Cyc E i → V i = 5 from fun i hi => this _ i (Nat.lt_succ_self _) hi
  intro k
  induction k with
  | zero => intro i h; omega
  | succ k ih =>
    intro i hk hi hc
    rw [h.own i hi hc, bends_eq]
    have hv : ∀ v ∈ (E.getD i []).map (fun x => V x.toNat), v = 5 := by
      intro v hv
      obtain ⟨x, hx, rfl⟩ := List.mem_map.1 hv
      have hb := hI.row i x hx
      exact ih _ (Nat.lt_of_lt_of_le (behindN_lt hI (hI.ed hx) hc) (Nat.le_of_lt_succ hk)) (by omega) fun hcx => hc (hcx.of_edge (hI.ed hx))
    rw [if_neg (fun h6 => by have := hv _ h6; omega), if_neg (fun h0 => by have := hv _ h0.2; omega)]
    simp [hi]

theorem all_second {n k : Nat} {E : List (List Int)} {V : Nat → Int} {want : Int} (hw : want = 0 ∨ want = 6) (hI : Inside n E) (hk : k < n) (h : Sol n E ((List.replicate n 5).set k want) V) :
    ∀ i, i < n → ¬ Cyc E i → ((i = k ∨ Way E i k) → V i = want) ∧ (¬ (i = k ∨ Way E i k) → V i = 5) := by
  suffices ∀ f i, behindN n E i < f → i < n → ¬ Cyc E i → ((i = k ∨ Way E i k) → V i = want) ∧ (¬ (i = k ∨ Way E i k) → V i = 5) from fun i hi => this _ i (Nat.lt_succ_self _) hi
  intro f
  induction f with
  | zero => intro i h; omega
  | succ f ih =>
    intro i hf hi hc
    have hs : ∀ x ∈ E.getD i [], ((x.toNat = k ∨ Way E x.toNat k) → V x.toNat = want) ∧ (¬ (x.toNat = k ∨ Way E x.toNat k) → V x.toNat = 5) := by
      intro x hx
      have hb := hI.row i x hx
      exact ih _ (Nat.lt_of_lt_of_le (behindN_lt hI (hI.ed hx) hc) (Nat.le_of_lt_succ hf)) (by omega) fun hcx => hc (hcx.of_edge (hI.ed hx))
    have hval : ∀ v ∈ (E.getD i []).map (fun x => V x.toNat), v = want ∨ v = 5 := by
      intro v hv
      obtain ⟨x, hx, rfl⟩ := List.mem_map.1 hv
      by_cases e : x.toNat = k ∨ Way E x.toNat k
      · exact .inl ((hs x hx).1 e)
      · exact .inr ((hs x hx).2 e)
    rw [h.own i hi hc, bends_eq]
    by_cases e : i = k
    · subst e
      have hall : ∀ v ∈ (E.getD i []).map (fun x => V x.toNat), v = 5 := by
        intro v hv
        obtain ⟨x, hx, rfl⟩ := List.mem_map.1 hv
        refine (hs x hx).2 fun hr => hc ⟨i, ?_, ?_⟩
        all_goals
          rcases hr with hr | hr
          · exact .one (by have := hI.ed hx; rwa [hr] at this)
          · exact .more (hI.ed hx) hr
      have ho : ((List.replicate n (5 : Int)).set i want).getD i 0 = want := by simp [hi]
      rw [ho, if_neg (fun h6 => by have := hall _ h6; omega), if_neg (fun h0 => by have := hall _ h0.2; omega)]
      exact ⟨fun _ => rfl, fun hn => absurd (.inl rfl) hn⟩
    · have ho : ((List.replicate n (5 : Int)).set k want).getD i 0 = 5 := by simp [hi, Ne.symm e]
      rw [ho]
      constructor
      · intro hr
        have hway := hr.resolve_left e
        have hmem : want ∈ (E.getD i []).map (fun x => V x.toNat) := by
          cases hway with
          | one hd => exact List.mem_map.2 ⟨_, hd, (hs _ hd).1 (.inl (by simp))⟩
          | more hd hw2 => exact List.mem_map.2 ⟨_, hd, (hs _ hd).1 (.inr (by simpa using hw2))⟩
        rcases hw with rfl | rfl
        · rw [if_neg (fun h6 => by have := hval _ h6; omega), if_pos ⟨rfl, hmem⟩]
        · rw [if_pos hmem]
      · intro hr
        have hall : ∀ v ∈ (E.getD i []).map (fun x => V x.toNat), v = 5 := by
          intro v hv
          obtain ⟨x, hx, rfl⟩ := List.mem_map.1 hv
          refine (hs x hx).2 fun hx2 => hr (.inr ?_)
          rcases hx2 with hx2 | hx2
          · exact .one (by have := hI.ed hx; rwa [hx2] at this)
          · exact .more (hI.ed hx) hx2
        rw [if_neg (fun h6 => by have := hall _ h6; omega), if_neg (fun h0 => by have := hall _ h0.2; omega)]

/-- What the law asks of each. -/
theorem all_law {n k : Nat} {E : List (List Int)} {V V' : Nat → Int} {want : Int} {Z : List Bool} (hw : want = 0 ∨ want = 6) (hI : Inside n E) (hk : k < n) (h : Sol n E (List.replicate n 5) V) (h' : Sol n E ((List.replicate n 5).set k want) V') (hz : POut E n k n Z) (i : Nat) (hi : i < n) :
    (V i = 7 ∧ V' i = 7) ∨ (V i = 5 ∧ V' i = if bt Z i = true then want else 5) := by
  by_cases hc : Cyc E i
  · exact .inl ⟨h.cyc i hi hc, h'.cyc i hi hc⟩
  · refine .inr ⟨all_first hI h i hi hc, ?_⟩
    have := all_second hw hI hk h' i hi hc
    by_cases hb : bt Z i = true
    · rw [if_pos hb]; exact this.1 ((reach_iff hz i).1 hb)
    · rw [if_neg hb]; exact this.2 fun hr => hb ((reach_iff hz i).2 hr)

theorem all_one {n : Nat} {E : List (List Int)} {V : Nat → Int} (hI : Inside n E) (h : Sol n E (List.replicate n 5) V) (i : Nat) (hi : i < n) : V i = 5 ∨ V i = 7 := by
  by_cases hc : Cyc E i
  · exact .inr (h.cyc i hi hc)
  · exact .inl (all_first hI h i hi hc)

end Go.Proofs.Ytecegbgebefheaa
