/- Rows of numbers as pieces of memory, and a struct among the results. -/
import Derived.Test.YtecegbgebefheaaRight
import Derived.Test.YtecegbgebefheaaTree
namespace Go.Proofs.Ytecegbgebefheaa
open Go.Sep Go.RowKit

/-! ### Rows of numbers, each an array of its own -/

def rwP (r : Rw) : SP := vec r.1 r.2.1 3 1 (r.2.2.map (Value.int .i64))

theorem map_erase {α β : Type} (f : α → β) : ∀ (l : List α) (k : Nat), (l.map f).eraseIdx k = (l.eraseIdx k).map f
  | [], _ => rfl
  | _ :: _, 0 => rfl
  | a :: l, k + 1 => by simp [map_erase f l k]

/-- The rows' arrays. -/
def rowsP (E : List Rw) : SP := sat (E.map rwP)

theorem sat_none : ∀ n : Nat, sat ((List.replicate n ((none, 0, []) : Rw)).map rwP) fun _ => none
  | 0 => trivial
  | n + 1 => ⟨fun _ => none, fun _ => none, fun _ => .inl rfl, HF.sub.rfl, HF.sub.rfl, .inl ⟨rfl, rfl, rfl⟩, sat_none n⟩

theorem rows_zero {w0 w : World} {L : List SP} (h : Holds w0 L w) (n : Nat) : Holds w0 (rowsP (List.replicate n (none, 0, [])) :: L) w :=
  h.imp fun g k => ⟨fun _ => none, g, fun _ => .inl rfl, fun _ _ e => by simp at e, HF.sub.rfl, sat_none n, k⟩

theorem rows_take {w0 w : World} {L : List SP} {E : List Rw} (h : Holds w0 (rowsP E :: L) w) (k : Nat) (hk : k < E.length) : Holds w0 (rwP E[k] :: rowsP (E.eraseIdx k) :: L) w :=
  h.imp fun g s => by
    have s1 := sat_open s
    have hk' : k < (E.map rwP).length := by simpa using hk
    have p : (E.map rwP ++ L).Perm ((rwP E[k] :: (E.eraseIdx k).map rwP) ++ L) := by
      have := perm_front k hk'
      rw [List.getElem_map, map_erase] at this
      exact this.append_right L
    exact sat_cons (fun _ => sat_close) (sat_perm p s1)

theorem rows_put {w0 w : World} {L : List SP} {E : List Rw} {k : Nat} {r : Rw} (h : Holds w0 (rwP r :: rowsP (E.eraseIdx k) :: L) w) (hk : k < E.length) : Holds w0 (rowsP (E.set k r) :: L) w :=
  h.imp fun g s => by
    have s1 : sat (rwP r :: ((E.eraseIdx k).map rwP ++ L)) g := sat_cons (fun _ => sat_open) s
    have hk' : k < ((E.set k r).map rwP).length := by simpa using hk
    have p : ((E.set k r).map rwP ++ L).Perm ((rwP r :: (E.eraseIdx k).map rwP) ++ L) := by
      have := perm_front k hk'
      rw [List.getElem_map, map_erase, List.eraseIdx_set_eq, List.getElem_set_self] at this
      exact this.append_right L
    exact sat_close (sat_perm p.symm s1)

theorem vec_row {w0 w : World} {L : List SP} {ao : Option Addr} {cap size : Nat} {T : TypeId} {xs : List Value} (h : Holds w0 (vec ao cap T size xs :: L) w) : RowAt w ao xs := by
  obtain ⟨h1, h2, _, p, _, d, _⟩ := h.mem
  rcases d with ⟨_, _, d⟩ | ⟨b, junk, e, f, _⟩
  · exact .inl d
  · refine .inr ⟨b, 0, e, fun i u hu => ?_⟩
    have hb := p _ _ f
    rw [Nat.zero_add]
    simp only [World.cell?, hb]
    simp [List.getElem?_append_left (List.getElem?_eq_some_iff.1 hu).1, hu]

theorem rowsP_at {w0 w : World} {L : List SP} {E : List Rw} (h : Holds w0 (rowsP E :: L) w) : ∀ e ∈ E, RowAt w e.1 (e.2.2.map (Value.int .i64)) := by
  intro e he
  obtain ⟨k, hk, rfl⟩ := List.mem_iff_getElem.1 he
  exact vec_row (rows_take h k hk)

theorem news_of {w0 w : World} {L : List SP} (h : Holds w0 L w) (b : Nat) {xs : List Value} {T : TypeId} {mk : List Value → List SP} [F : Find L b xs T mk] : ∀ j u, xs[j]? = some u → w.cell? ((⟨b, 0, none⟩ : Addr).add j) = some u := fun j u hu => by
  rw [show (⟨b, 0, none⟩ : Addr).add j = ⟨b, j, none⟩ by unfold Addr.add; split <;> simp_all]
  exact h.cell b j hu

/-! ### A struct among the results -/

theorem results_cell {P : Program} {w0 w : World} {L : List SP} (hS : Holds w0 L w) {fn : Func} {tm : Tmp} {t : TypeId} {tmps : Array Value} (hf : fn.results = #[.cell tm t]) {b i n : Nat} (ha : tmps.getD tm undef = .pointer (some ⟨b, i, none⟩))
    {xs vs : List Value} {T : TypeId} {mk : List Value → List SP} [F : Find L b xs T mk] (hagg : (isAgg t).run P w = .ok true w) (hn : (sizeOf t).run P w = .ok n w) [hv : GetN xs i n vs] : (results fn tmps).run P w = .ok (.agg vs.toArray) w := by
  obtain ⟨junk, hb⟩ := hS.block b
  have := run_loadAt_n (P := P) (w := w) hagg hn hb hv.eq
  simp only [Instr.loadAt, Instr.sureAddr, Sem.run_bind, Sem.run_pure, Result.andThen_ok] at this
  simp only [Array.getD_eq_getD_getElem?] at ha
  simp [results, hf, asAddr, ha, this]

end Go.Proofs.Ytecegbgebefheaa
