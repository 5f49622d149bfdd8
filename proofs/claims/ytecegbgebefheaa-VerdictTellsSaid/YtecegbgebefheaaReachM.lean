/- A list of what is still to be looked at finds just what is reached: plain lemmas. -/
import Derived.Test.YtecegbgebefheaaAloneM
set_option linter.unusedSimpArgs false
set_option linter.unusedVariables false
namespace Go.Proofs.Ytecegbgebefheaa

/-- Z: what was seen, T: what is still to be looked at, from task i on. -/
structure Seek (E : List (List Int)) (n i : Nat) (Z : List Bool) (T : List Int) : Prop where
  len : Z.length = n
  ins : ∀ x ∈ T, 0 ≤ x ∧ x < (n : Int)
  soundT : ∀ x ∈ T, Way E i x.toNat
  soundZ : ∀ j, bt Z j = true → Way E i j
  first : ∀ x ∈ E.getD i [], bt Z x.toNat = true ∨ x ∈ T
  next : ∀ j, bt Z j = true → ∀ x ∈ E.getD j [], bt Z x.toNat = true ∨ x ∈ T
  short : T.length ≤ 1000 * (1 + cnt Z)

theorem Seek.start {E : List (List Int)} {n i : Nat} (hI : Inside n E) (hs : ∀ e ∈ E, e.length ≤ 1000) : Seek E n i (List.replicate n false) (E.getD i []) := by
  refine ⟨by simp, fun x hx => hI.row i x hx, fun x hx => .one (hI.ed hx), fun j hj => ?_, fun x hx => .inr hx, fun j hj => ?_, ?_⟩
  · have := bt_lt hj
    simp [bt] at hj this
    simp [this] at hj
  · have := bt_lt hj
    simp [bt] at hj this
    simp [this] at hj
  · rcases getD_mem_or (E := E) i with h | h
    · have := hs _ h; omega
    · rw [h]; simp

theorem Seek.skip {E : List (List Int)} {n i : Nat} {Z : List Bool} {x : Int} {T : List Int} (h : Seek E n i Z (x :: T)) (hx : bt Z x.toNat = true) : Seek E n i Z T := by
  refine ⟨h.len, fun y hy => h.ins y (by simp [hy]), fun y hy => h.soundT y (by simp [hy]), h.soundZ, fun y hy => ?_, fun j hj y hy => ?_, by have := h.short; simp at this; omega⟩
  · rcases h.first y hy with a | a
    · exact .inl a
    · rcases List.mem_cons.1 a with rfl | a
      · exact .inl hx
      · exact .inr a
  · rcases h.next j hj y hy with a | a
    · exact .inl a
    · rcases List.mem_cons.1 a with rfl | a
      · exact .inl hx
      · exact .inr a

theorem cnt_set {Z : List Bool} {i : Nat} (hi : i < Z.length) (h : bt Z i = false) : cnt (Z.set i true) = cnt Z + 1 := by
  induction Z generalizing i with
  | nil => simp at hi
  | cons z Z ih =>
    cases i with
    | zero =>
      simp only [bt, List.getD_cons_zero] at h
      subst h
      simp [cnt]
    | succ i =>
      have := ih (i := i) (by simpa using hi) (by simpa [bt] using h)
      unfold cnt at this ⊢
      rw [List.set_cons_succ, List.countP_cons, List.countP_cons, this]
      omega

theorem Seek.mark {E : List (List Int)} {n i : Nat} {Z : List Bool} {x : Int} {T : List Int} (hI : Inside n E) (hs : ∀ e ∈ E, e.length ≤ 1000) (h : Seek E n i Z (x :: T)) (hx : bt Z x.toNat = false) : Seek E n i (Z.set x.toNat true) (T ++ E.getD x.toNat []) := by
  have hb := h.ins x (by simp)
  have hl : x.toNat < Z.length := by rw [h.len]; omega
  have hw := h.soundT x (by simp)
  refine ⟨by simp [h.len], fun y hy => ?_, fun y hy => ?_, fun j hj => ?_, fun y hy => ?_, fun j hj y hy => ?_, ?_⟩
  · rcases List.mem_append.1 hy with hy | hy
    · exact h.ins y (by simp [hy])
    · exact hI.row _ y hy
  · rcases List.mem_append.1 hy with hy | hy
    · exact h.soundT y (by simp [hy])
    · exact hw.trans (.one (hI.ed hy))
  · rw [bt_set hl] at hj
    split at hj
    · rename_i e; rw [e]; exact hw
    · exact h.soundZ j hj
  · rw [bt_set hl]
    rcases h.first y hy with a | a
    · left; split; rfl; exact a
    · rcases List.mem_cons.1 a with rfl | a
      · left; rw [if_pos rfl]
      · exact .inr (List.mem_append.2 (.inl a))
  · rw [bt_set hl] at hj ⊢
    split at hj
    · rename_i e
      subst e
      exact .inr (List.mem_append.2 (.inr hy))
    · rcases h.next j hj y hy with a | a
      · left; split; rfl; exact a
      · rcases List.mem_cons.1 a with rfl | a
        · left; rw [if_pos rfl]
        · exact .inr (List.mem_append.2 (.inl a))
  · have h1 := h.short
    rw [cnt_set hl hx, List.length_append]
    simp only [List.length_cons] at h1
    rcases getD_mem_or (E := E) x.toNat with h2 | h2
    · have := hs _ h2; omega
    · rw [h2]; simp; omega

theorem Seek.done {E : List (List Int)} {n i : Nat} {Z : List Bool} (h : Seek E n i Z []) (j : Nat) : bt Z j = true ↔ Way E i j := by
  refine ⟨h.soundZ j, fun hw => ?_⟩
  have hn : ∀ j, bt Z j = true → ∀ x ∈ E.getD j [], bt Z x.toNat = true := fun j hj x hx => (h.next j hj x hx).resolve_right (by simp)
  have hz : ∀ {a b : Nat}, Way E a b → bt Z a = true → bt Z b = true := by
    intro a b w
    induction w with
    | one hd => intro ha; simpa using hn _ ha _ hd
    | more hd _ ih => intro ha; exact ih (by simpa using hn _ ha _ hd)
  cases hw with
  | one hd => simpa using (h.first _ hd).resolve_right (by simp)
  | more hd w => exact hz w (by simpa using (h.first _ hd).resolve_right (by simp))

/-- What goes down. -/
def left (n : Nat) (Z : List Bool) (T : List Int) : Nat := (n - cnt Z) * 1001 + T.length

theorem Seek.down {E : List (List Int)} {n i : Nat} {Z : List Bool} {x : Int} {T : List Int} (hs : ∀ e ∈ E, e.length ≤ 1000) (h : Seek E n i Z (x :: T)) (hx : bt Z x.toNat = false) : left n (Z.set x.toNat true) (T ++ E.getD x.toNat []) < left n Z (x :: T) := by
  have hb := h.ins x (by simp)
  have hl : x.toNat < Z.length := by rw [h.len]; omega
  have h1 := cnt_set hl hx
  have h2 := cnt_le (Z.set x.toNat true)
  have h3 := h.len
  rw [List.length_set] at h2
  unfold left
  rw [h1, List.length_append, List.length_cons]
  have h4 : (E.getD x.toNat []).length ≤ 1000 := by
    rcases getD_mem_or (E := E) x.toNat with h2 | h2
    · exact hs _ h2
    · rw [h2]; simp
  have h5 : n - cnt Z = (n - (cnt Z + 1)) + 1 := by omega
  rw [h5, Nat.add_mul]
  omega

end Go.Proofs.Ytecegbgebefheaa
