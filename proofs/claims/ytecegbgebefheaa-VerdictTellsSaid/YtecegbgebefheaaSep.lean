/- Statements about pieces of memory (separation): a world that holds a list of pieces, each of its own. Plain lemmas, no condition. -/
import Derived.WalkKit
import Derived.Deep.Draws
import Derived.Deep.QuietTactic
import Derived.BigQuiet
import Derived.StillTailTactics
import Derived.WalkLawsBesides
import Derived.WalkSpells
namespace Go.Sep

/-- A piece of memory: which block holds what. -/
abbrev HF := Nat → Option Obj
/-- A statement about a piece of memory. -/
abbrev SP := HF → Prop

def HF.sub (h h' : HF) : Prop := ∀ b o, h b = some o → h' b = some o
def HF.apart (h h' : HF) : Prop := ∀ b, h b = none ∨ h' b = none

/-- The pieces, each of its own. -/
def sat : List SP → HF → Prop
  | [], _ => True
  | A :: L, h => ∃ h1 h2, HF.apart h1 h2 ∧ HF.sub h1 h ∧ HF.sub h2 h ∧ A h1 ∧ sat L h2

def pts (b : Nat) (o : Obj) : SP := fun h => h b = some o

def upd (h : HF) (b : Nat) (o : Obj) : HF := fun k => if k = b then some o else h k

theorem HF.sub.trans {a b c : HF} (h : HF.sub a b) (k : HF.sub b c) : HF.sub a c := fun _ _ e => k _ _ (h _ _ e)
theorem HF.sub.rfl {a : HF} : HF.sub a a := fun _ _ e => e
theorem HF.apart.symm {a b : HF} (h : HF.apart a b) : HF.apart b a := fun k => (h k).symm
theorem HF.apart.sub {a b c : HF} (h : HF.apart a b) (k : HF.sub c b) : HF.apart a c := fun x => by
  rcases h x with e | e
  · exact .inl e
  · right
    cases hc : c x with
    | none => rfl
    | some o => rw [k _ _ hc] at e; cases e

theorem sat_mono {L : List SP} {h h' : HF} (hs : HF.sub h h') (k : sat L h) : sat L h' := by
  cases L with
  | nil => trivial
  | cons A L =>
    obtain ⟨h1, h2, a, b, c, d, e⟩ := k
    exact ⟨h1, h2, a, b.trans hs, c.trans hs, d, e⟩

theorem sat_weak {A : SP} {L : List SP} {h : HF} (k : sat (A :: L) h) : sat L h := by
  obtain ⟨h1, h2, a, b, c, d, e⟩ := k
  exact sat_mono c e

theorem sat_swap {A B : SP} {L : List SP} {h : HF} (k : sat (A :: B :: L) h) : sat (B :: A :: L) h := by
  obtain ⟨h1, h2, a, b, c, d, h3, h4, e, f, g, i, j⟩ := k
  refine ⟨h3, fun x => match h1 x with | some o => some o | none => h4 x, ?_, f.trans c, ?_, i, h1, h4, ?_, ?_, ?_, d, j⟩
  · intro x
    rcases a x with p | p
    · simp only [p]; exact e x
    · left
      cases q : h3 x with
      | none => rfl
      | some o => rw [f _ _ q] at p; cases p
  · intro x o q
    cases p : h1 x with
    | some o' => simp only [p] at q; exact b _ _ (p.trans q)
    | none => simp only [p] at q; exact c _ _ (g _ _ q)
  · exact a.sub g
  · intro x o q
    simp only [q]
  · intro x o q
    rcases a x with p | p
    · simp only [p]; exact q
    · rw [g _ _ q] at p; cases p

theorem sat_cons {A : SP} {L L' : List SP} (h : ∀ g, sat L g → sat L' g) {g : HF} (k : sat (A :: L) g) : sat (A :: L') g := by
  obtain ⟨h1, h2, a, b, c, d, e⟩ := k
  exact ⟨h1, h2, a, b, c, d, h _ e⟩

theorem sat_perm {L L' : List SP} (p : L.Perm L') : ∀ {h : HF}, sat L h → sat L' h := by
  induction p with
  | nil => exact fun k => k
  | cons A p ih => exact fun k => sat_cons (fun _ => ih) k
  | swap A B L => exact fun k => sat_swap k
  | trans p q ih1 ih2 => exact fun k => ih2 (ih1 k)

/-- A piece that is itself pieces. -/
theorem sat_open {L1 L : List SP} {h : HF} : sat (sat L1 :: L) h → sat (L1 ++ L) h := by
  induction L1 generalizing L h with
  | nil => exact fun k => sat_weak k
  | cons A L1 ih =>
    rintro ⟨h1, h2, a, b, c, ⟨h3, h4, d, e, f, g, i⟩, k⟩
    have s : sat (A :: sat L1 :: L) h := by
      refine ⟨h3, fun x => match h4 x with | some o => some o | none => h2 x, ?_, e.trans b, ?_, g, h4, h2, ?_, ?_, ?_, i, k⟩
      · intro x
        rcases d x with p | p
        · exact .inl p
        · simp only [p]
          exact (HF.apart.sub a.symm e x).symm
      · intro x o q
        cases p : h4 x with
        | some o' => simp only [p] at q; exact b _ _ (f _ _ (p.trans q))
        | none => simp only [p] at q; exact c _ _ q
      · exact (a.symm.sub f).symm
      · intro x o q
        simp only [q]
      · intro x o q
        cases p : h4 x with
        | none => simpa only [p] using q
        | some o' =>
          have := f _ _ p
          rcases a x with r | r
          · rw [r] at this; cases this
          · rw [r] at q; cases q
    exact sat_cons (fun _ => ih) s

theorem sat_close {L1 L : List SP} {h : HF} : sat (L1 ++ L) h → sat (sat L1 :: L) h := by
  induction L1 generalizing L h with
  | nil => exact fun k => ⟨fun _ => none, h, fun _ => .inl rfl, fun _ _ e => by simp at e, HF.sub.rfl, trivial, k⟩
  | cons A L1 ih =>
    intro k
    have k := sat_cons (fun _ => ih) k
    obtain ⟨h1, h2, a, b, c, d, h3, h4, e, f, g, i, j⟩ := k
    refine ⟨fun x => match h1 x with | some o => some o | none => h3 x, h4, ?_, ?_, g.trans c, ⟨h1, h3, a.sub f, ?_, ?_, d, i⟩, j⟩
    · intro x
      rcases a x with p | p
      · simp only [p]; exact e x
      · right
        cases q : h4 x with
        | none => rfl
        | some o => rw [g _ _ q] at p; cases p
    · intro x o q
      cases p : h1 x with
      | some o' => simp only [p] at q; exact b _ _ (p.trans q)
      | none => simp only [p] at q; exact c _ _ (f _ _ q)
    · intro x o q
      simp only [q]
    · intro x o q
      rcases a x with p | p
      · simp only [p]; exact q
      · rw [f _ _ q] at p; cases p

theorem sat_imp {A B : SP} {L : List SP} {h : HF} (i : ∀ g, A g → B g) (k : sat (A :: L) h) : sat (B :: L) h := by
  obtain ⟨h1, h2, a, b, c, d, e⟩ := k
  exact ⟨h1, h2, a, b, c, i _ d, e⟩

theorem sat_ex {α : Type} {A : α → SP} {L : List SP} {h : HF} (k : sat ((fun g => ∃ x, A x g) :: L) h) : ∃ x, sat (A x :: L) h := by
  obtain ⟨h1, h2, a, b, c, ⟨x, d⟩, e⟩ := k
  exact ⟨x, h1, h2, a, b, c, d, e⟩

theorem sat_pure {p : Prop} {A : SP} {L : List SP} {h : HF} (k : sat ((fun g => p ∧ A g) :: L) h) : p ∧ sat (A :: L) h := by
  obtain ⟨h1, h2, a, b, c, ⟨x, d⟩, e⟩ := k
  exact ⟨x, h1, h2, a, b, c, d, e⟩

/-- One block out of the first piece written anew. -/
theorem sat_upd {A B : SP} {L : List SP} {h : HF} {b : Nat} {o o' : Obj} (hA : ∀ g, A g → g b = some o) (hB : ∀ g, A g → B (upd g b o')) (k : sat (A :: L) h) : sat (B :: L) (upd h b o') := by
  obtain ⟨h1, h2, a, p, q, d, e⟩ := k
  have hb := hA _ d
  have h2b : h2 b = none := by
    rcases a b with r | r
    · rw [hb] at r; cases r
    · exact r
  refine ⟨upd h1 b o', h2, ?_, ?_, ?_, hB _ d, e⟩
  · intro x
    by_cases hx : x = b
    · subst hx; exact .inr h2b
    · simp only [upd, hx, if_false]; exact a x
  · intro x y r
    by_cases hx : x = b
    · subst hx; simpa [upd] using r
    · simp only [upd, hx, if_false] at r ⊢; exact p _ _ r
  · intro x y r
    by_cases hx : x = b
    · subst hx; rw [h2b] at r; cases r
    · simp only [upd, hx, if_false]; exact q _ _ r

theorem sat_new {L : List SP} {h : HF} {b : Nat} {o : Obj} (hb : h b = none) (k : sat L h) : sat (pts b o :: L) (upd h b o) := by
  refine ⟨upd (fun _ => none) b o, h, ?_, ?_, ?_, by simp [pts, upd], k⟩
  · intro x
    by_cases hx : x = b
    · subst hx; exact .inr hb
    · simp [upd, hx]
  · intro x y r
    by_cases hx : x = b
    · subst hx; simpa [upd] using r
    · simp [upd, hx] at r
  · intro x y r
    by_cases hx : x = b
    · subst hx; rw [hb] at r; cases r
    · simp only [upd, hx, if_false]; exact r

/-! ### Looking a block up in the list -/

/-- A block of cells, written as a list. -/
def blk (b : Nat) (T : TypeId) (xs : List Value) : SP := pts b (.cells xs.toArray T (0, 0))

/-- The array behind a slice that begins at its first cell: 'xs' is what is seen, more may lie behind it. No address: nothing is seen. -/
def vec (ao : Option Addr) (cap : Nat) (T : TypeId) (size : Nat) (xs : List Value) : SP := fun h =>
  (ao = none ∧ cap = 0 ∧ xs = []) ∨ ∃ b junk, ao = some ⟨b, 0, none⟩ ∧ h b = some (.cells (xs ++ junk).toArray T (0, 0)) ∧ (xs ++ junk).length = cap * size ∧ cap ≤ maxLen

theorem pts_sub {b : Nat} {o : Obj} {g h : HF} (k : HF.sub g h) (e : g b = some o) : h b = some o := k _ _ e

/-- Block b is in the list, its first cells are xs; they may be written anew. -/
class Find (L : List SP) (b : Nat) (xs : outParam (List Value)) (T : outParam TypeId) (mk : outParam (List Value → List SP)) : Prop where
  get : ∀ h, sat L h → ∃ junk, h b = some (.cells (xs ++ junk).toArray T (0, 0))
  set : ∀ h ys junk, ys.length = xs.length → sat L h → h b = some (.cells (xs ++ junk).toArray T (0, 0)) → sat (mk ys) (upd h b (.cells (ys ++ junk).toArray T (0, 0)))

theorem sat_head {A B : SP} {L : List SP} {h : HF} {b : Nat} {o' : Obj} (hA : ∀ g, A g → ∃ o, g b = some o) (hB : ∀ g, HF.sub g h → A g → B (upd g b o')) (k : sat (A :: L) h) : sat (B :: L) (upd h b o') := by
  obtain ⟨h1, h2, a, p, q, d, e⟩ := k
  obtain ⟨o, hb⟩ := hA _ d
  have h2b : h2 b = none := by
    rcases a b with r | r
    · rw [hb] at r; cases r
    · exact r
  refine ⟨upd h1 b o', h2, ?_, ?_, ?_, hB _ p d, e⟩
  · intro x
    by_cases hx : x = b
    · subst hx; exact .inr h2b
    · simp only [upd, hx, if_false]; exact a x
  · intro x y r
    by_cases hx : x = b
    · subst hx; simpa [upd] using r
    · simp only [upd, hx, if_false] at r ⊢; exact p _ _ r
  · intro x y r
    by_cases hx : x = b
    · subst hx; rw [h2b] at r; cases r
    · simp only [upd, hx, if_false]; exact q _ _ r

instance Find.blk {L : List SP} {b : Nat} {T : TypeId} {xs : List Value} : Find (blk b T xs :: L) b xs T (fun ys => Sep.blk b T ys :: L) where
  get := fun h ⟨_, _, _, p, _, d, _⟩ => ⟨[], by simpa using p _ _ d⟩
  set := fun h ys junk hl k e => by
    have e' : h b = some (.cells xs.toArray T (0, 0)) := by
      obtain ⟨_, _, _, p, _, d, _⟩ := k
      exact p _ _ d
    have hj : junk = [] := by
      rw [e'] at e
      simpa using e
    subst hj
    exact sat_head (fun g d => ⟨_, d⟩) (fun g _ _ => by simp [Sep.blk, pts, upd]) k

instance Find.pts {L : List SP} {b : Nat} {T : TypeId} {xs : List Value} : Find (pts b (.cells xs.toArray T (0, 0)) :: L) b xs T (fun ys => Sep.pts b (.cells ys.toArray T (0, 0)) :: L) := Find.blk

instance Find.vec {L : List SP} {b cap size : Nat} {T : TypeId} {xs : List Value} : Find (vec (some ⟨b, 0, none⟩) cap T size xs :: L) b xs T (fun ys => Sep.vec (some ⟨b, 0, none⟩) cap T size ys :: L) where
  get := fun h ⟨_, _, _, p, _, d, _⟩ => by
    rcases d with ⟨d, _⟩ | ⟨b', junk, e, f, _⟩
    · cases d
    · cases e
      exact ⟨junk, p _ _ f⟩
  set := fun h ys junk hl k e => by
    refine sat_head (fun g d => ?_) (fun g s d => ?_) k
    · rcases d with ⟨d, _⟩ | ⟨b', junk, e, f, _⟩
      · cases d
      · cases e
        exact ⟨_, f⟩
    · rcases d with ⟨d, _⟩ | ⟨b', junk', e', f, l, m⟩
      · cases d
      · cases e'
        have := s _ _ f
        rw [e] at this
        have hj : junk = junk' := by simpa using this
        subst hj
        exact .inr ⟨b, junk, rfl, by simp [upd], by simpa [hl] using l, m⟩

instance (priority := low) Find.there {A : SP} {L : List SP} {b : Nat} {xs : List Value} {T : TypeId} {mk : List Value → List SP} [F : Find L b xs T mk] : Find (A :: L) b xs T (fun ys => A :: mk ys) where
  get := fun h ⟨_, _, _, _, q, _, e⟩ => by
    obtain ⟨j, r⟩ := F.get _ e
    exact ⟨j, q _ _ r⟩
  set := fun h ys junk hl ⟨h1, h2, a, p, q, d, e⟩ hb => by
    obtain ⟨j, h2b⟩ := F.get _ e
    have hj : h2 b = some (.cells (xs ++ junk).toArray T (0, 0)) := by rw [h2b, ← hb, q _ _ h2b]
    have h1b : h1 b = none := by
      rcases a b with r | r
      · exact r
      · rw [h2b] at r; cases r
    refine ⟨h1, upd h2 b _, ?_, ?_, ?_, d, F.set _ ys junk hl e hj⟩
    · intro x
      by_cases hx : x = b
      · subst hx; exact .inl h1b
      · simp only [upd, hx, if_false]; exact a x
    · intro x y r
      by_cases hx : x = b
      · subst hx; rw [h1b] at r; cases r
      · simp only [upd, hx, if_false]; exact p _ _ r
    · intro x y r
      by_cases hx : x = b
      · subst hx; simpa [upd] using r
      · simp only [upd, hx, if_false] at r ⊢; exact q _ _ r

/-! ### Worlds -/

/-- The world w, come from w0, holds these pieces. -/
structure Holds (w0 : World) (L : List SP) (w : World) : Prop where
  os : w.os = w0.os
  tape : w.tape = w0.tape
  output : w.output = w0.output
  size : w0.heap.size ≤ w.heap.size
  mem : sat L (fun b => w.heap[b]?)

def old (w0 : World) : SP := fun h => ∀ b o, w0.heap[b]? = some o → h b = some o

theorem Holds.start (w : World) : Holds w [old w] w :=
  ⟨rfl, rfl, rfl, Nat.le_refl _, ⟨fun b => w.heap[b]?, fun _ => none, fun _ => .inr rfl, HF.sub.rfl, fun _ _ e => by simp at e, fun _ _ e => e, trivial⟩⟩

theorem Holds.imp {w0 w : World} {L L' : List SP} (h : Holds w0 L w) (i : ∀ g, sat L g → sat L' g) : Holds w0 L' w := ⟨h.os, h.tape, h.output, h.size, i _ h.mem⟩

theorem Holds.perm {w0 w : World} {L L' : List SP} (h : Holds w0 L w) (p : L.Perm L') : Holds w0 L' w := h.imp fun _ => sat_perm p

theorem perm_front {L : List SP} (i : Nat) (hi : i < L.length) : L.Perm (L[i] :: L.eraseIdx i) := by
  induction L generalizing i with
  | nil => simp at hi
  | cons A L ih =>
    cases i with
    | zero => simp
    | succ i => simpa using (List.Perm.cons A (ih i (by simpa using hi))).trans (List.Perm.swap _ _ _)

/-- Piece number i to the front. -/
theorem Holds.front {w0 w : World} {L : List SP} (h : Holds w0 L w) (i : Nat) (hi : i < L.length) : Holds w0 (L[i] :: L.eraseIdx i) w := h.perm (perm_front i hi)

theorem Holds.weak {w0 w : World} {A : SP} {L : List SP} (h : Holds w0 (A :: L) w) : Holds w0 L w := h.imp fun _ => sat_weak

theorem Holds.drew {w0 w : World} {L : List SP} (h : Holds w0 L w) : Holds w0 L w.drew := ⟨h.os, h.tape, h.output, h.size, h.mem⟩
theorem Holds.drewN {w0 w : World} {L : List SP} (h : Holds w0 L w) (n : Nat) : Holds w0 L (w.drewN n) := ⟨h.os, h.tape, h.output, h.size, h.mem⟩

theorem heap_alloc_upd (w : World) (o : Obj) : (fun b => (w.alloc o).heap[b]?) = upd (fun b => w.heap[b]?) w.heap.size o := by
  funext b
  show (w.heap.push o)[b]? = _
  rw [Array.getElem?_push]
  simp only [upd]

theorem Holds.alloc {w0 w : World} {L : List SP} (h : Holds w0 L w) (o : Obj) : Holds w0 (pts w.heap.size o :: L) (w.alloc o) := by
  refine ⟨h.os, h.tape, h.output, Nat.le_trans h.size (by simp), ?_⟩
  rw [heap_alloc_upd]
  exact sat_new (by simp) h.mem

theorem Holds.block {w0 w : World} {L : List SP} (h : Holds w0 L w) (b : Nat) {xs : List Value} {T : TypeId} {mk : List Value → List SP} [F : Find L b xs T mk] : ∃ junk, w.heap[b]? = some (.cells (xs ++ junk).toArray T (0, 0)) := F.get _ h.mem

theorem Holds.lt {w0 w : World} {L : List SP} (h : Holds w0 L w) (b : Nat) {xs : List Value} {T : TypeId} {mk : List Value → List SP} [F : Find L b xs T mk] : b < w.heap.size := by
  obtain ⟨j, e⟩ := h.block b
  exact (Array.getElem?_eq_some_iff.1 e).1

theorem Holds.cell {w0 w : World} {L : List SP} (h : Holds w0 L w) (b i : Nat) {xs : List Value} {T : TypeId} {mk : List Value → List SP} [F : Find L b xs T mk] {v : Value} (hv : xs[i]? = some v) : w.cell? ⟨b, i, none⟩ = some v := by
  obtain ⟨j, e⟩ := h.block b
  simp only [World.cell?, e]
  simp [List.getElem?_append_left (List.getElem?_eq_some_iff.1 hv).1, hv]

theorem Holds.free {w0 w : World} {L : List SP} (h : Holds w0 L w) (b i : Nat) {xs : List Value} {T : TypeId} {mk : List Value → List SP} [F : Find L b xs T mk] : w.frozen? ⟨b, i, none⟩ = false := by
  obtain ⟨j, e⟩ := h.block b
  simp [World.frozen?, e]

theorem heap_setRow_upd (w : World) (b : Nat) (cs cs' : Array Value) (T : TypeId) (fr : Nat × Nat) (hb : w.heap[b]? = some (.cells cs T fr)) :
    (fun k => (w.setRow b cs').heap[k]?) = upd (fun k => w.heap[k]?) b (.cells cs' T fr) := by
  funext k
  by_cases hk : k = b
  · subst hk; simp [upd, setRow_heap w k cs cs' T fr hb]
  · simp [upd, hk, setRow_other w b k cs' hk]

theorem Holds.setRow {w0 w : World} {L : List SP} (h : Holds w0 L w) (b : Nat) (ys : List Value) {xs junk : List Value} {T : TypeId} {mk : List Value → List SP} [F : Find L b xs T mk] (hj : w.heap[b]? = some (.cells (xs ++ junk).toArray T (0, 0))) (hl : ys.length = xs.length) :
    Holds w0 (mk ys) (w.setRow b (ys ++ junk).toArray) := by
  refine ⟨h.os, h.tape, h.output, by simpa [World.setRow] using h.size, ?_⟩
  rw [heap_setRow_upd w b _ _ T (0, 0) hj]
  exact F.set _ ys junk hl h.mem hj

end Go.Sep
