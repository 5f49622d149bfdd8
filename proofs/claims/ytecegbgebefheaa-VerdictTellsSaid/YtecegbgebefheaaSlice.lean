/- Appending what stands behind any slice, to a slice that begins anywhere in its array. -/
import Derived.Test.YtecegbgebefheaaSched
import Derived.ArgAppend
import Derived.Deep.AppendSrc
set_option linter.unusedSimpArgs false
set_option linter.unusedVariables false
namespace Go.Sep

/-- The array behind a slice that begins anywhere in it. -/
def vecO (ao : Option Addr) (cap : Nat) (T : TypeId) (size : Nat) (xs : List Value) : SP := fun h =>
  (ao = none ∧ cap = 0 ∧ xs = []) ∨ ∃ b pre junk, ao = some ⟨b, pre.length, none⟩ ∧ h b = some (.cells (pre ++ xs ++ junk).toArray T (0, 0)) ∧ cap * size ≤ (xs ++ junk).length ∧ xs.length ≤ cap * size ∧ cap ≤ maxLen

theorem vec_vecO {ao : Option Addr} {cap size : Nat} {T : TypeId} {xs : List Value} {h : HF} (k : vec ao cap T size xs h) : vecO ao cap T size xs h := by
  rcases k with k | ⟨b, junk, e, f, l, m⟩
  · exact .inl k
  · exact .inr ⟨b, [], junk, e, by simpa using f, by omega, by simp only [List.length_append] at l; omega, m⟩

section
variable {P : Program} {ops : Array Oper} {Q : Exit → Act → World → Prop} {rest : List Oper} {a : Act} {w w0 : World} {L : List SP}

theorem Holds.toO {ao : Option Addr} {cap size : Nat} {T : TypeId} {xs : List Value} (h : Holds w0 (vec ao cap T size xs :: L) w) : Holds w0 (vecO ao cap T size xs :: L) w := h.imp fun _ => sat_imp fun _ => vec_vecO

/-- Nothing appended. -/
theorem run_append_zero {t ty T : TypeId} (ht : P.underlying t = some (.slice T)) {i : TypeInfo} (hi : P.info? T = some i) (base s : Option Addr) (n cap c : Nat) (hn : n ≤ cap) :
    (Builtin.append_ #[t, t] ty #[.slice base n cap, .slice s 0 c]).run P w = .ok (.slice base n cap) w := by
  cases s <;> cases base <;> simp [Builtin.append_, run_underlying ht, sizeOf, typeInfo, hi, Builtin.lenOf, Builtin.firstCells, loadCells, loadCellsFrom, storeCells, hn]

theorem RowAt.news {ao : Option Addr} {xs : List Value} {b off : Nat} (h : ao = some ⟨b, off, none⟩) (hc : ∀ i u, xs[i]? = some u → w.cell? ⟨b, off + i, none⟩ = some u) : ∀ j u, xs[j]? = some u → w.cell? ((⟨b, off, none⟩ : Addr).add j) = some u := fun j u hu => by
  have e : (⟨b, off, none⟩ : Addr).add j = ⟨b, off + j, none⟩ := by unfold Addr.add; split <;> simp_all
  rw [e]
  exact hc j u hu

/-- 'append' of what stands behind any slice, to a slice of the list's that begins at its array's first cell. -/
theorem wpList_appv {ao : Option Addr} {n cap size : Nat} {T : TypeId} {xs : List Value} (hS : Holds w0 (vec ao cap T size xs :: L) w) {o : Oper} {t : TypeId} {s x : Operand} (hop : o.op = .call { callee := .builtin .append, args := #[s, x], argTypes := #[t, t] }) (hw : Region.wanted o (yielded ops a.tmps) = true)
    (hs : a.eval s = .slice ao n cap)
    (ht : P.underlying t = some (.slice T)) {z : Value} {bytes : Nat} (hinfo : (P.info? T).map (fun i => (i.zero, i.size, i.bytes)) = some (some z, size, bytes)) (hzs : z.cells.size = size) (hsz : 0 < size)
    (hn : xs.length = n * size) {so : Option Addr} {m c : Nat} (hx : a.eval x = .slice so m c) {news ys : List Value} (hl : news.length = m * size) (hsrc : RowAt w so news) (h1 : ∀ u ∈ news, u.oneCell' = true)
    (hys : xs ++ news = ys) (hm : n + m ≤ maxLen) (hb : (n + m) * bytes ≤ 140737488355328)
    (h : ∀ ao' cap' w', Holds w0 (vec ao' cap' T size ys :: L) w' → wpList P ops Q rest (a.put o.dst (.slice ao' (n + m) cap')) w') : wpList P ops Q (o :: rest) a w := by
  subst hys
  have key : ∃ ao' cap' w', (Builtin.append_ #[t, t] o.type #[.slice ao n cap, .slice so m c]).run P w = .ok (.slice ao' (n + m) cap') w' ∧ Holds w0 (vec ao' cap' T size (xs ++ news) :: L) w' := by
    by_cases hm0 : m = 0
    · subst hm0
      have e : news = [] := List.eq_nil_of_length_eq_zero (by simpa using hl)
      subst e
      obtain ⟨i, hi, _, hz1, _⟩ := info_parts hinfo
      have hcap : n ≤ cap := by
        obtain ⟨_, _, _, _, _, d, _⟩ := hS.mem
        rcases d with ⟨_, rfl, rfl⟩ | ⟨b, junk, _, _, l, _⟩
        · simp only [List.length_nil] at hn
          rcases Nat.eq_zero_or_pos n with h0 | h0
          · omega
          · have := Nat.mul_pos h0 hsz; omega
        · simp only [List.length_append] at l
          have : n * size ≤ cap * size := by omega
          exact Nat.le_of_mul_le_mul_right this hsz
      refine ⟨ao, cap, w, by simpa using run_append_zero ht hi ao so n cap c hcap, by simpa using hS⟩
    · have hpos : 0 < news.length := by rw [hl]; exact Nat.mul_pos (by omega) hsz
      obtain ⟨b, off, rfl, hc⟩ := hsrc.at hpos
      exact run_append_vec hS ht hinfo hzs hsz hn hl (RowAt.news rfl hc) h1 hm hb
  obtain ⟨ao', cap', w', hr, hS'⟩ := key
  refine BigFrame.wpList_want hw fun K hK => ?_
  unfold Oper.wp execOp
  simp only [hop, resolve, invoke, builtin, Sem.run_bind, Sem.run_pure, Result.andThen_ok, List.map_toArray, List.map_cons, List.map_nil, hs, hx]
  rw [hr]
  exact hK _ _ (h ao' cap' w' hS')

theorem mid_get {pre xs junk : List Value} {j : Nat} {u : Value} (h : xs[j]? = some u) : (pre ++ (xs ++ junk))[pre.length + j]? = some u := by
  have hjl := (List.getElem?_eq_some_iff.1 h).1
  rw [List.getElem?_append_right (by omega), Nat.add_sub_cancel_left, List.getElem?_append_left hjl, h]

theorem run_append_room_off {t ty T : TypeId} (ht : P.underlying t = some (.slice T)) {i : TypeInfo} (hi : P.info? T = some i) (b off n cap : Nat) (cells : Array Value) (hg : w.heap[b]? = some (.cells cells T (0, 0)))
    (ad : Addr) (m c : Nat) (news : List Value) (hl : news.length = m * i.size) (hnews : ∀ j u, news[j]? = some u → w.cell? (ad.add j) = some u) (h1 : ∀ u ∈ news, u.oneCell' = true) (hroom : n + m ≤ cap) (hfit : off + n * i.size + news.length ≤ cells.size) :
    (Builtin.append_ #[t, t] ty #[.slice (some ⟨b, off, none⟩) n cap, .slice (some ad) m c]).run P w = .ok (.slice (some ⟨b, off, none⟩) (n + m) cap) (w.setRow b (List.take (off + n * i.size) cells.toList ++ news ++ List.drop (off + n * i.size + news.length) cells.toList).toArray) := by
  have hfc := run_firstCells_some (P := P) w i.size m ad m c news hl hnews
  have hst := run_storeCells_at P b (off + n * i.size) T news 0 cells w hg (by simpa using hfit) h1
  simp only [Nat.add_zero] at hst
  simp [Builtin.append_, run_underlying ht, sizeOf, typeInfo, hi, Builtin.lenOf, hroom, hfc, Addr.add_lit, hst]

theorem run_append_vecO {ao : Option Addr} {cap size : Nat} {T : TypeId} {xs : List Value} (hS : Holds w0 (vecO ao cap T size xs :: L) w) {t ty : TypeId} (ht : P.underlying t = some (.slice T)) {z : Value} {bytes : Nat} (hinfo : (P.info? T).map (fun i => (i.zero, i.size, i.bytes)) = some (some z, size, bytes)) (hzs : z.cells.size = size) (hsz : 0 < size)
    {n : Nat} (hn : xs.length = n * size) {ad : Addr} {m c : Nat} {news : List Value} (hl : news.length = m * size) (hnews : ∀ j u, news[j]? = some u → w.cell? (ad.add j) = some u) (h1 : ∀ u ∈ news, u.oneCell' = true)
    (hm : n + m ≤ maxLen) (hb : (n + m) * bytes ≤ 140737488355328) :
    ∃ ao' cap' w', (Builtin.append_ #[t, t] ty #[.slice ao n cap, .slice (some ad) m c]).run P w = .ok (.slice ao' (n + m) cap') w' ∧ Holds w0 (vecO ao' cap' T size (xs ++ news) :: L) w' := by
  have hvec : vecO ao cap T size xs (fun b => w.heap[b]?) := by
    obtain ⟨h1, h2, _, p, _, d, _⟩ := hS.mem
    rcases d with d | ⟨b, pre, junk, e, f, r⟩
    · exact .inl d
    · exact .inr ⟨b, pre, junk, e, p _ _ f, r⟩
  rcases hvec with ⟨rfl, rfl, rfl⟩ | ⟨b, pre, junk, rfl, hg, hcl, hxl, hcm⟩
  · obtain ⟨ao', cap', w', hr, hS'⟩ := run_append_vec (ty := ty) (hS.weak.vec_nil T size) ht hinfo hzs hsz hn hl hnews h1 hm hb
    exact ⟨ao', cap', w', hr, hS'.toO⟩
  · obtain ⟨i, hi, hz0, hz1, hz2⟩ := info_parts hinfo
    subst hz1; subst hz2
    have hm' : n + m ≤ 9223372036854775807 := by simp only [maxLen] at hm; omega
    have hlen : (xs ++ news).length = (n + m) * i.size := by rw [List.length_append, hn, hl, Nat.add_mul]
    by_cases hroom : n + m ≤ cap
    · have hroom' : (n + m) * i.size ≤ cap * i.size := Nat.mul_le_mul_right _ hroom
      have hfit : pre.length + n * i.size + news.length ≤ (pre ++ xs ++ junk).toArray.size := by
        simp only [List.length_append] at hcl
        simp only [List.size_toArray, List.length_append]
        rw [hl]
        rw [Nat.add_mul] at hroom'
        omega
      have hr := run_append_room_off (P := P) (w := w) (ty := ty) ht hi b pre.length n cap (pre ++ xs ++ junk).toArray hg ad m c news hl hnews h1 hroom hfit
      have e1 : List.take (pre.length + n * i.size) (pre ++ xs ++ junk).toArray.toList = pre ++ xs := by
        rw [show (pre ++ xs ++ junk).toArray.toList = (pre ++ xs) ++ junk from rfl, ← hn, ← List.length_append]
        exact List.take_left
      have e2 : List.drop (pre.length + n * i.size + news.length) (pre ++ xs ++ junk).toArray.toList = junk.drop news.length := by
        rw [show (pre ++ xs ++ junk).toArray.toList = (pre ++ xs) ++ junk from rfl, ← hn, ← List.length_append, List.drop_append, List.drop_eq_nil_of_le (by omega), List.nil_append, Nat.add_sub_cancel_left]
      rw [e1, e2] at hr
      refine ⟨_, _, _, hr, ⟨hS.os, hS.tape, hS.output, by simpa [World.setRow] using hS.size, ?_⟩⟩
      rw [heap_setRow_upd w b _ _ T (0, 0) hg]
      refine sat_head (fun g d => ?_) (fun g s d => ?_) hS.mem
      · rcases d with ⟨d, _⟩ | ⟨b', pre', junk', e, f, _⟩
        · cases d
        · obtain rfl : b = b' := by injection e with e; injection e
          exact ⟨_, f⟩
      · refine .inr ⟨b, pre, junk.drop news.length, rfl, by simp [upd], ?_, by rw [hlen]; exact hroom', hcm⟩
        simp only [List.length_append, List.length_drop] at hcl ⊢
        rw [Nat.add_mul] at hroom'
        rw [hl]
        omega
    · have holds : ∀ j u, xs[j]? = some u → w.cell? ((⟨b, pre.length, none⟩ : Addr).add j) = some u := fun j u hj => by
        have hadd : (⟨b, pre.length, none⟩ : Addr).add j = ⟨b, pre.length + j, none⟩ := by unfold Addr.add; split <;> simp_all
        rw [hadd]
        simp only [World.cell?, hg]
        simpa using mid_get hj
      have hr := run_append_grow (P := P) w t ty T i z ht hi hz0 ⟨b, pre.length, none⟩ n cap xs hn holds ad m c news hl hnews (by omega) (by omega) (growslice_fits (by omega) hb)
      refine ⟨_, _, _, hr, ?_⟩
      have hge := grownCap_ge w (n + m) cap T
      have hcm2 : grownCap w (n + m) cap T ≤ maxLen := grownCap_le_maxLen w (n + m) cap T hm
      refine (hS.weak.drew.alloc _).imp fun _ => sat_imp fun g k => .inr ⟨w.heap.size, [], (Builtin.zeroCells z.cells (grownCap w (n + m) cap T - (n + m))).toList, rfl, ?_, ?_, ?_, hcm2⟩
      · unfold pts at k
        rw [show w.heap.size = w.drew.heap.size from rfl, k]
        simp
      · rw [List.length_append, hlen, Array.length_toList, size_zeroCells, hzs, ← Nat.add_mul, show n + m + (grownCap w (n + m) cap T - (n + m)) = grownCap w (n + m) cap T by omega]
        exact Nat.le_refl _
      · rw [hlen]
        exact Nat.mul_le_mul_right _ hge

/-- 'append' of what stands behind any slice, to a slice of the list's that begins anywhere in its array. -/
theorem wpList_appO {ao : Option Addr} {n cap size : Nat} {T : TypeId} {xs : List Value} (hS : Holds w0 (vecO ao cap T size xs :: L) w) {o : Oper} {t : TypeId} {s x : Operand} (hop : o.op = .call { callee := .builtin .append, args := #[s, x], argTypes := #[t, t] }) (hw : Region.wanted o (yielded ops a.tmps) = true)
    (hs : a.eval s = .slice ao n cap)
    (ht : P.underlying t = some (.slice T)) {z : Value} {bytes : Nat} (hinfo : (P.info? T).map (fun i => (i.zero, i.size, i.bytes)) = some (some z, size, bytes)) (hzs : z.cells.size = size) (hsz : 0 < size)
    (hn : xs.length = n * size) {so : Option Addr} {m c : Nat} (hx : a.eval x = .slice so m c) {news ys : List Value} (hl : news.length = m * size) (hsrc : RowAt w so news) (h1 : ∀ u ∈ news, u.oneCell' = true)
    (hys : xs ++ news = ys) (hm : n + m ≤ maxLen) (hb : (n + m) * bytes ≤ 140737488355328)
    (h : ∀ ao' cap' w', Holds w0 (vecO ao' cap' T size ys :: L) w' → wpList P ops Q rest (a.put o.dst (.slice ao' (n + m) cap')) w') : wpList P ops Q (o :: rest) a w := by
  subst hys
  have key : ∃ ao' cap' w', (Builtin.append_ #[t, t] o.type #[.slice ao n cap, .slice so m c]).run P w = .ok (.slice ao' (n + m) cap') w' ∧ Holds w0 (vecO ao' cap' T size (xs ++ news) :: L) w' := by
    by_cases hm0 : m = 0
    · subst hm0
      have e : news = [] := List.eq_nil_of_length_eq_zero (by simpa using hl)
      subst e
      obtain ⟨i, hi, _, hz1, _⟩ := info_parts hinfo
      have hcap : n ≤ cap := by
        obtain ⟨_, _, _, _, _, d, _⟩ := hS.mem
        rcases d with ⟨_, rfl, rfl⟩ | ⟨b, pre, junk, _, _, _, l, _⟩
        · simp only [List.length_nil] at hn
          rcases Nat.eq_zero_or_pos n with h0 | h0
          · omega
          · have := Nat.mul_pos h0 hsz; omega
        · have : n * size ≤ cap * size := by omega
          exact Nat.le_of_mul_le_mul_right this hsz
      refine ⟨ao, cap, w, by simpa using run_append_zero ht hi ao so n cap c hcap, by simpa using hS⟩
    · have hpos : 0 < news.length := by rw [hl]; exact Nat.mul_pos (by omega) hsz
      obtain ⟨b, off, rfl, hc⟩ := hsrc.at hpos
      exact run_append_vecO hS ht hinfo hzs hsz hn hl (RowAt.news rfl hc) h1 hm hb
  obtain ⟨ao', cap', w', hr, hS'⟩ := key
  refine BigFrame.wpList_want hw fun K hK => ?_
  unfold Oper.wp execOp
  simp only [hop, resolve, invoke, builtin, Sem.run_bind, Sem.run_pure, Result.andThen_ok, List.map_toArray, List.map_cons, List.map_nil, hs, hx]
  rw [hr]
  exact hK _ _ (h ao' cap' w' hS')

theorem vecO_row {ao : Option Addr} {cap size : Nat} {T : TypeId} {xs : List Value} (h : Holds w0 (vecO ao cap T size xs :: L) w) : RowAt w ao xs := by
  obtain ⟨h1, h2, _, p, _, d, _⟩ := h.mem
  rcases d with ⟨_, _, d⟩ | ⟨b, pre, junk, e, f, _⟩
  · exact .inl d
  · refine .inr ⟨b, pre.length, e, fun i u hu => ?_⟩
    have hb := p _ _ f
    simp only [World.cell?, hb]
    simpa using mid_get hu

/-- A load of one cell that is known in the world as it is. -/
theorem wpList_ldw {o : Oper} {t : TypeId} {x : Operand} (hop : o.op = .load t x) (hw : Region.wanted o (yielded ops a.tmps) = true) {ad : Addr} (hx : a.eval x = .pointer (some ad)) {v : Value} (hc : w.cell? ad = some v) (hagg : (isAgg t).run P w = .ok false w)
    (h : wpList P ops Q rest (a.put o.dst v) w) : wpList P ops Q (o :: rest) a w := by
  refine BigFrame.wpList_want hw fun K hK => ?_
  unfold Oper.wp execOp
  simp only [hop, hx, Sem.run_bind, run_loadAt_one hagg hc, Result.andThen_ok, Sem.run_pure]
  exact hK _ _ h

theorem vecO_cap {ao : Option Addr} {cap size : Nat} {T : TypeId} {xs : List Value} (h : Holds w0 (vecO ao cap T size xs :: L) w) : xs.length ≤ cap * size ∧ cap ≤ maxLen := by
  obtain ⟨_, _, _, _, _, d, _⟩ := h.mem
  rcases d with ⟨_, rfl, rfl⟩ | ⟨b, pre, junk, _, _, _, l, m⟩
  · simp [maxLen]
  · exact ⟨l, m⟩

/-- Without its first element. -/
theorem vecO_tail {b off cap : Nat} {T : TypeId} {x : Value} {xs : List Value} (h : Holds w0 (vecO (some ⟨b, off, none⟩) (cap + 1) T 1 (x :: xs) :: L) w) : Holds w0 (vecO (some ⟨b, off + 1, none⟩) cap T 1 xs :: L) w :=
  h.imp fun _ => sat_imp fun g k => by
    rcases k with ⟨k, _⟩ | ⟨b', pre, junk, e, f, l1, l2, m⟩
    · cases k
    · injection e with e
      injection e with eb eo _
      subst eb eo
      refine .inr ⟨b, pre ++ [x], junk, by simp, by simpa using f, ?_, ?_, by omega⟩
      · simp at l1 ⊢; omega
      · simp at l2 ⊢; omega

/-- Its last element gone. -/
theorem vecO_last {b off : Nat} {T : TypeId} {x : Value} (h : Holds w0 (vecO (some ⟨b, off, none⟩) 1 T 1 [x] :: L) w) : Holds w0 (vecO (some ⟨b, off, none⟩) 0 T 1 [] :: L) w :=
  h.imp fun _ => sat_imp fun g k => by
    rcases k with ⟨k, _⟩ | ⟨b', pre, junk, e, f, l1, l2, m⟩
    · cases k
    · injection e with e
      injection e with eb eo _
      subst eb eo
      exact .inr ⟨b, pre, x :: junk, rfl, by simpa using f, by simp, by simp, by omega⟩

end
end Go.Sep
