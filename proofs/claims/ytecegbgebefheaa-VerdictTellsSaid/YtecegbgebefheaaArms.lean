/- One lemma for each operation of the model, over the pieces of memory of Sep. -/
import Derived.Test.YtecegbgebefheaaText
namespace Go.Sep

/-! ### Literal lists, by instances -/

/-- xs with vs laid over it from place i on. -/
def setAll (xs : List Value) : Nat → List Value → List Value
  | _, [] => xs
  | i, v :: vs => setAll (xs.set i v) (i + 1) vs

theorem setAll_length : ∀ (vs : List Value) (xs : List Value) (i : Nat), (setAll xs i vs).length = xs.length
  | [], _, _ => rfl
  | v :: vs, xs, i => by simp [setAll, setAll_length vs]

theorem setAll_eq : ∀ (vs : List Value) (xs : List Value) (i : Nat), i + vs.length ≤ xs.length → setAll xs i vs = xs.take i ++ vs ++ xs.drop (i + vs.length)
  | [], xs, i, _ => by simp [setAll]
  | v :: vs, xs, i, h => by
    simp only [List.length_cons] at h
    rw [setAll, setAll_eq vs _ _ (by simp; omega)]
    rw [List.take_set, List.drop_set_of_lt (by omega)]
    have h1 : List.take (i + 1) xs = List.take i xs ++ [xs[i]] := by rw [List.take_succ_eq_append_getElem (by omega)]
    rw [h1, List.set_append_right _ _ (by simp; omega)]
    simp only [List.length_take, List.length_cons]
    rw [show i - min i xs.length = 0 by omega, show i + 1 + vs.length = i + (vs.length + 1) by omega]
    simp

class SetAt (xs : List Value) (i : Nat) (vs : List Value) (ys : outParam (List Value)) : Prop where
  eq : setAll xs i vs = ys

instance SetAt.nil {xs : List Value} {i : Nat} : SetAt xs i [] xs := ⟨rfl⟩
theorem setAll_succ : ∀ (vs : List Value) (x : Value) (xs : List Value) (i : Nat), setAll (x :: xs) (i + 1) vs = x :: setAll xs i vs
  | [], _, _, _ => rfl
  | v :: vs, x, xs, i => by
    show setAll (x :: xs.set i v) (i + 1 + 1) vs = x :: setAll (xs.set i v) (i + 1) vs
    exact setAll_succ vs x _ _
instance SetAt.zero {x v : Value} {xs vs ys : List Value} [h : SetAt xs 0 vs ys] : SetAt (x :: xs) 0 (v :: vs) (v :: ys) := ⟨by
  show setAll (v :: xs) (0 + 1) vs = _
  rw [setAll_succ, h.eq]⟩
instance SetAt.succ {x : Value} {xs vs ys : List Value} {i : Nat} [h : SetAt xs i vs ys] : SetAt (x :: xs) (i + 1) vs (x :: ys) := ⟨by rw [setAll_succ, h.eq]⟩
instance SetAt.map {α : Type} {f : α → Value} {zs : List α} {i : Nat} {v : α} : SetAt (zs.map f) i [f v] ((zs.set i v).map f) := ⟨by simp [setAll, List.map_set]⟩
instance (priority := low) SetAt.one {xs : List Value} {i : Nat} {v : Value} : SetAt xs i [v] (xs.set i v) := ⟨rfl⟩

class GetAt (xs : List Value) (i : Nat) (v : outParam Value) : Prop where
  eq : xs[i]? = some v
instance GetAt.zero {x : Value} {xs : List Value} : GetAt (x :: xs) 0 x := ⟨rfl⟩
instance GetAt.succ {x v : Value} {xs : List Value} {i : Nat} [h : GetAt xs i v] : GetAt (x :: xs) (i + 1) v := ⟨by rw [List.getElem?_cons_succ]; exact h.eq⟩

class GetN (xs : List Value) (i n : Nat) (vs : outParam (List Value)) : Prop where
  eq : i + n ≤ xs.length ∧ (xs.drop i).take n = vs
instance GetN.nil {xs : List Value} : GetN xs 0 0 [] := ⟨by simp⟩
instance GetN.zero {x : Value} {xs vs : List Value} {n : Nat} [h : GetN xs 0 n vs] : GetN (x :: xs) 0 (n + 1) (x :: vs) := ⟨by
  have := h.eq
  simp only [List.drop_zero] at this ⊢
  exact ⟨by simp; omega, by rw [List.take_succ_cons, this.2]⟩⟩
instance GetN.succ {x : Value} {xs vs : List Value} {i n : Nat} [h : GetN xs i n vs] : GetN (x :: xs) (i + 1) n vs := ⟨by
  have := h.eq
  exact ⟨by simp; omega, by simpa using this.2⟩⟩

/-- Two rows, one behind the other. -/
class App (xs vs : List Value) (ys : outParam (List Value)) : Prop where
  eq : xs ++ vs = ys
instance App.map {α : Type} {f : α → Value} {zs : List α} {v : α} : App (zs.map f) [f v] ((zs ++ [v]).map f) := ⟨by simp⟩
instance App.maps {α : Type} {f : α → Value} {zs us : List α} : App (zs.map f) (us.map f) ((zs ++ us).map f) := ⟨by simp⟩
instance (priority := low) App.any {xs vs : List Value} : App xs vs (xs ++ vs) := ⟨rfl⟩

/-! ### A slice's array in the list -/

class FindVec (L : List SP) (ao : Option Addr) (cap : outParam Nat) (T : outParam TypeId) (size : outParam Nat) (xs : outParam (List Value)) (rest : outParam (List SP)) (back : outParam (SP → List SP)) : Prop where
  fore : ∀ h, sat L h → sat (vec ao cap T size xs :: rest) h
  hind : ∀ A h, sat (A :: rest) h → sat (back A) h
instance FindVec.here {L : List SP} {ao : Option Addr} {cap size : Nat} {T : TypeId} {xs : List Value} : FindVec (vec ao cap T size xs :: L) ao cap T size xs L (fun A => A :: L) := ⟨fun _ k => k, fun _ _ k => k⟩
instance (priority := low) FindVec.there {B : SP} {L : List SP} {ao : Option Addr} {cap size : Nat} {T : TypeId} {xs : List Value} {rest : List SP} {back : SP → List SP} [F : FindVec L ao cap T size xs rest back] :
    FindVec (B :: L) ao cap T size xs (B :: rest) (fun A => B :: back A) :=
  ⟨fun _ k => sat_swap (sat_cons (fun _ => F.fore _) k), fun _ _ k => sat_cons (fun _ => F.hind _ _) (sat_swap k)⟩

theorem Holds.vec_some {w0 w : World} {L : List SP} (h : Holds w0 L w) (ao : Option Addr) {cap size : Nat} {T : TypeId} {xs : List Value} {rest : List SP} {back : SP → List SP} [F : FindVec L ao cap T size xs rest back] (hx : 0 < xs.length) : ∃ b, ao = some ⟨b, 0, none⟩ := by
  obtain ⟨_, _, _, _, _, d, _⟩ := F.fore _ h.mem
  rcases d with ⟨_, _, rfl⟩ | ⟨b, junk, e, _⟩
  · simp at hx
  · exact ⟨b, e⟩

theorem Holds.vec_cap {w0 w : World} {L : List SP} (h : Holds w0 L w) (ao : Option Addr) {cap size : Nat} {T : TypeId} {xs : List Value} {rest : List SP} {back : SP → List SP} [F : FindVec L ao cap T size xs rest back] : xs.length ≤ cap * size ∧ cap ≤ maxLen := by
  obtain ⟨_, _, _, _, _, d, _⟩ := F.fore _ h.mem
  rcases d with ⟨_, rfl, rfl⟩ | ⟨b, junk, e, _, l, m⟩
  · simp
  · simp only [List.length_append] at l
    exact ⟨by omega, m⟩

theorem Holds.vec_nil {w0 w : World} {L : List SP} (h : Holds w0 L w) (T : TypeId) (size : Nat) : Holds w0 (vec none 0 T size [] :: L) w :=
  h.imp fun _ k => ⟨fun _ => none, _, fun _ => .inl rfl, fun _ _ e => by simp at e, HF.sub.rfl, .inl ⟨rfl, rfl, rfl⟩, k⟩

/-! ### The operations -/

section
variable {P : Program} {ops : Array Oper} {Q : Exit → Act → World → Prop} {rest : List Oper} {a : Act} {w w0 : World} {L : List SP}

theorem run_loadAt_one {t : TypeId} {ad : Addr} {v : Value} (hagg : (isAgg t).run P w = .ok false w) (hc : w.cell? ad = some v) : (Instr.loadAt t (.pointer (some ad))).run P w = .ok v w := by
  simp only [Instr.loadAt, Instr.sureAddr, loadVar, Sem.run_bind, Sem.run_pure, Result.andThen_ok, hagg, Bool.false_eq_true, if_false]
  unfold load
  simp only [Sem.run, hc]

/-- A load of one cell. -/
theorem wpList_ld (hS : Holds w0 L w) {o : Oper} {t : TypeId} {x : Operand} (hop : o.op = .load t x) (hw : Region.wanted o (yielded ops a.tmps) = true) {b i : Nat} (hx : a.eval x = .pointer (some ⟨b, i, none⟩))
    {xs : List Value} {T : TypeId} {mk : List Value → List SP} [F : Find L b xs T mk] (hagg : (isAgg t).run P w = .ok false w) {v : Value} (hv : xs[i]? = some v)
    (h : wpList P ops Q rest (a.put o.dst v) w) : wpList P ops Q (o :: rest) a w := by
  refine BigFrame.wpList_want hw fun K hK => ?_
  unfold Oper.wp execOp
  simp only [hop, hx, Sem.run_bind, run_loadAt_one hagg (hS.cell b i hv), Result.andThen_ok, Sem.run_pure]
  exact hK _ _ h

theorem wpList_ldl (hS : Holds w0 L w) {o : Oper} {t : TypeId} {x : Operand} (hop : o.op = .load t x) (hw : Region.wanted o (yielded ops a.tmps) = true) {b i : Nat} (hx : a.eval x = .pointer (some ⟨b, i, none⟩))
    {xs : List Value} {T : TypeId} {mk : List Value → List SP} [F : Find L b xs T mk] (hagg : (isAgg t).run P w = .ok false w) {v : Value} [hv : GetAt xs i v]
    (h : wpList P ops Q rest (a.put o.dst v) w) : wpList P ops Q (o :: rest) a w := wpList_ld hS hop hw hx hagg hv.eq h

/-- What stands at a place of a row of numbers. -/
def rd (zs : List Int) (i : Nat) : Int := zs.getD i 0
theorem rd_eq {zs : List Int} {i : Nat} (h : i < zs.length) : rd zs i = zs[i] := by simp [rd, h]
theorem map_rd {zs : List Int} {i : Nat} (k : IntKind) (h : i < zs.length) : (zs.map (Value.int k))[i]? = some (.int k (rd zs i)) := by simp [rd, h]

theorem wpList_ldi (hS : Holds w0 L w) {o : Oper} {t : TypeId} {x : Operand} (hop : o.op = .load t x) (hw : Region.wanted o (yielded ops a.tmps) = true) {b i : Nat} (hx : a.eval x = .pointer (some ⟨b, i, none⟩))
    {zs : List Int} {k : IntKind} {T : TypeId} {mk : List Value → List SP} [F : Find L b (zs.map (Value.int k)) T mk] (hagg : (isAgg t).run P w = .ok false w) (hi : i < zs.length)
    (h : wpList P ops Q rest (a.put o.dst (.int k (rd zs i))) w) : wpList P ops Q (o :: rest) a w := wpList_ld hS hop hw hx hagg (map_rd k hi) h

theorem run_loadAt_n {t : TypeId} {b i n : Nat} {xs vs junk : List Value} {T : TypeId} (hagg : (isAgg t).run P w = .ok true w) (hn : (sizeOf t).run P w = .ok n w) (hb : w.heap[b]? = some (.cells (xs ++ junk).toArray T (0, 0)))
    (hv : i + n ≤ xs.length ∧ (xs.drop i).take n = vs) : (Instr.loadAt t (.pointer (some ⟨b, i, none⟩))).run P w = .ok (.agg vs.toArray) w := by
  have hl : vs.length = n := by rw [← hv.2]; simp; omega
  have hc := run_loadCells_list (P := P) (w := w) ⟨b, i, none⟩ vs (fun j v hj => by
    have hlt : j < n := by rw [← hl]; exact (List.getElem?_eq_some_iff.1 hj).1
    have hadd : (⟨b, i, none⟩ : Addr).add j = ⟨b, i + j, none⟩ := by unfold Addr.add; split <;> simp_all
    rw [hadd]
    rw [← hv.2, List.getElem?_take, if_pos hlt, List.getElem?_drop] at hj
    simp only [World.cell?, hb]
    simp [List.getElem?_append_left (show i + j < xs.length by omega), hj])
  rw [hl] at hc
  simp only [Instr.loadAt, Instr.sureAddr, loadVar, Sem.run_bind, Sem.run_pure, Result.andThen_ok, hagg, if_true, hn, hc]

/-- A load of a struct. -/
theorem wpList_lda (hS : Holds w0 L w) {o : Oper} {t : TypeId} {x : Operand} (hop : o.op = .load t x) (hw : Region.wanted o (yielded ops a.tmps) = true) {b i n : Nat} (hx : a.eval x = .pointer (some ⟨b, i, none⟩))
    {xs vs : List Value} {T : TypeId} {mk : List Value → List SP} [F : Find L b xs T mk] (hagg : (isAgg t).run P w = .ok true w) (hn : (sizeOf t).run P w = .ok n w) (hv : i + n ≤ xs.length ∧ (xs.drop i).take n = vs)
    (h : wpList P ops Q rest (a.put o.dst (.agg vs.toArray)) w) : wpList P ops Q (o :: rest) a w := by
  obtain ⟨junk, hb⟩ := hS.block b
  refine BigFrame.wpList_want hw fun K hK => ?_
  unfold Oper.wp execOp
  simp only [hop, hx, Sem.run_bind, run_loadAt_n hagg hn hb hv, Result.andThen_ok, Sem.run_pure]
  exact hK _ _ h

theorem wpList_ldal (hS : Holds w0 L w) {o : Oper} {t : TypeId} {x : Operand} (hop : o.op = .load t x) (hw : Region.wanted o (yielded ops a.tmps) = true) {b i n : Nat} (hx : a.eval x = .pointer (some ⟨b, i, none⟩))
    {xs vs : List Value} {T : TypeId} {mk : List Value → List SP} [F : Find L b xs T mk] (hagg : (isAgg t).run P w = .ok true w) (hn : (sizeOf t).run P w = .ok n w) [hv : GetN xs i n vs]
    (h : wpList P ops Q rest (a.put o.dst (.agg vs.toArray)) w) : wpList P ops Q (o :: rest) a w := wpList_lda hS hop hw hx hagg hn hv.eq h

theorem run_storeAt {t : TypeId} {b i : Nat} {v : Value} {xs junk vs ys : List Value} {T : TypeId} (hv : v.cells = vs.toArray) (hn : (sizeOf t).run P w = .ok vs.length w) (hb : w.heap[b]? = some (.cells (xs ++ junk).toArray T (0, 0)))
    (h1 : ∀ u ∈ vs, u.oneCell' = true) (hi : i + vs.length ≤ xs.length) (hy : setAll xs i vs = ys) : (Instr.storeAt t (.pointer (some ⟨b, i, none⟩)) v).run P w = .ok () (w.setRow b (ys ++ junk).toArray) := by
  have hs := run_storeCells_at P b i T vs 0 (xs ++ junk).toArray w hb (by simp; omega) h1
  simp only [Nat.add_zero] at hs
  rw [setAll_eq vs xs i hi] at hy
  have e : (List.take i (xs ++ junk).toArray.toList ++ vs ++ List.drop (i + vs.length) (xs ++ junk).toArray.toList) = ys ++ junk := by
    rw [← hy]
    simp only [List.append_assoc]
    rw [List.take_append_of_le_length (by omega), List.drop_append_of_le_length hi]
  rw [e] at hs
  simp only [Instr.storeAt, Instr.sureAddr, storeVar, Sem.run_bind, Sem.run_pure, Result.andThen_ok, hv, hn, List.size_toArray, ne_eq, not_true_eq_false, if_false, hs]

/-- A store. -/
theorem wpList_st (hS : Holds w0 L w) {o : Oper} {t : TypeId} {x y : Operand} (hop : o.op = .store t x y) (hw : Region.wanted o (yielded ops a.tmps) = true) {b i : Nat} (hx : a.eval x = .pointer (some ⟨b, i, none⟩)) {v : Value} (hy : a.eval y = v)
    {vs : List Value} (hv : v.cells = vs.toArray) {xs ys : List Value} {T : TypeId} {mk : List Value → List SP} [F : Find L b xs T mk] (hn : (sizeOf t).run P w = .ok vs.length w) (h1 : ∀ u ∈ vs, u.oneCell' = true) (hi : i + vs.length ≤ xs.length) [hys : SetAt xs i vs ys]
    (h : ∀ w', Holds w0 (mk ys) w' → wpList P ops Q rest (a.put o.dst undef) w') : wpList P ops Q (o :: rest) a w := by
  obtain ⟨junk, hb⟩ := hS.block b
  refine BigFrame.wpList_want hw fun K hK => ?_
  unfold Oper.wp execOp
  simp only [hop, hx, hy, Sem.run_bind, run_storeAt hv hn hb h1 hi hys.eq, Result.andThen_ok, Sem.run_pure]
  exact hK _ _ (h _ (hS.setRow b ys hb (by rw [← hys.eq, setAll_length])))

section
variable (hS : Holds w0 L w) {o : Oper} {t : TypeId} {x y : Operand} (hop : o.op = .store t x y) (hw : Region.wanted o (yielded ops a.tmps) = true) {b i : Nat} (hx : a.eval x = .pointer (some ⟨b, i, none⟩))
  {xs ys : List Value} {T : TypeId} {mk : List Value → List SP} [F : Find L b xs T mk]
include hS hop hw hx F
theorem wpList_sti {k : IntKind} {n : Int} (hy : a.eval y = .int k n) (hn : (sizeOf t).run P w = .ok 1 w) (hi : i < xs.length) [hys : SetAt xs i [.int k n] ys]
    (h : ∀ w', Holds w0 (mk ys) w' → wpList P ops Q rest (a.put o.dst undef) w') : wpList P ops Q (o :: rest) a w :=
  wpList_st hS hop hw hx hy (vs := [.int k n]) rfl hn (by simp [Value.oneCell']) hi h
theorem wpList_stb {n : Bool} (hy : a.eval y = .bool n) (hn : (sizeOf t).run P w = .ok 1 w) (hi : i < xs.length) [hys : SetAt xs i [.bool n] ys]
    (h : ∀ w', Holds w0 (mk ys) w' → wpList P ops Q rest (a.put o.dst undef) w') : wpList P ops Q (o :: rest) a w :=
  wpList_st hS hop hw hx hy (vs := [.bool n]) rfl hn (by simp [Value.oneCell']) hi h
theorem wpList_stp {n : Option Addr} (hy : a.eval y = .pointer n) (hn : (sizeOf t).run P w = .ok 1 w) (hi : i < xs.length) [hys : SetAt xs i [.pointer n] ys]
    (h : ∀ w', Holds w0 (mk ys) w' → wpList P ops Q rest (a.put o.dst undef) w') : wpList P ops Q (o :: rest) a w :=
  wpList_st hS hop hw hx hy (vs := [.pointer n]) rfl hn (by simp [Value.oneCell']) hi h
theorem wpList_sts {n : Option Addr} {m c : Nat} (hy : a.eval y = .slice n m c) (hn : (sizeOf t).run P w = .ok 1 w) (hi : i < xs.length) [hys : SetAt xs i [.slice n m c] ys]
    (h : ∀ w', Holds w0 (mk ys) w' → wpList P ops Q rest (a.put o.dst undef) w') : wpList P ops Q (o :: rest) a w :=
  wpList_st hS hop hw hx hy (vs := [.slice n m c]) rfl hn (by simp [Value.oneCell']) hi h
theorem wpList_stf {f : Fn} {m c : Array Value} (hy : a.eval y = .func f m c) (hn : (sizeOf t).run P w = .ok 1 w) (hi : i < xs.length) [hys : SetAt xs i [.func f m c] ys]
    (h : ∀ w', Holds w0 (mk ys) w' → wpList P ops Q rest (a.put o.dst undef) w') : wpList P ops Q (o :: rest) a w :=
  wpList_st hS hop hw hx hy (vs := [.func f m c]) rfl hn (by simp [Value.oneCell']) hi h
theorem wpList_stm {m : Option Nat} (hy : a.eval y = .map m) (hn : (sizeOf t).run P w = .ok 1 w) (hi : i < xs.length) [hys : SetAt xs i [.map m] ys]
    (h : ∀ w', Holds w0 (mk ys) w' → wpList P ops Q rest (a.put o.dst undef) w') : wpList P ops Q (o :: rest) a w :=
  wpList_st hS hop hw hx hy (vs := [.map m]) rfl hn (by simp [Value.oneCell']) hi h
theorem wpList_sta {vs : List Value} (hy : a.eval y = .agg vs.toArray) (hn : (sizeOf t).run P w = .ok vs.length w) (h1 : ∀ u ∈ vs, u.oneCell' = true) (hi : i + vs.length ≤ xs.length) [hys : SetAt xs i vs ys]
    (h : ∀ w', Holds w0 (mk ys) w' → wpList P ops Q rest (a.put o.dst undef) w') : wpList P ops Q (o :: rest) a w :=
  wpList_st hS hop hw hx hy (vs := vs) rfl hn h1 hi h
end

/-- A variable of its own with a value. -/
theorem wpList_box (hS : Holds w0 L w) {o : Oper} {t : TypeId} {x : Operand} (hop : o.op = .box t x) (hw : Region.wanted o (yielded ops a.tmps) = true) {v : Value} (hx : a.eval x = v) {vs : List Value} (hv : v.cells = vs.toArray)
    (h : ∀ b w', Holds w0 (blk b t vs :: L) w' → wpList P ops Q rest (a.put o.dst (.pointer (some ⟨b, 0, none⟩))) w') : wpList P ops Q (o :: rest) a w := by
  refine BigFrame.wpList_want hw fun K hK => ?_
  unfold Oper.wp execOp
  simp only [hop, hx, Instr.box, newVar, newRow, newObj, Sem.run_bind, Sem.run, hv, Result.andThen_ok, Sem.run_pure]
  exact hK _ _ (h _ _ (hS.alloc _))

theorem wpList_boxi (hS : Holds w0 L w) {o : Oper} {t : TypeId} {x : Operand} (hop : o.op = .box t x) (hw : Region.wanted o (yielded ops a.tmps) = true) {k : IntKind} {n : Int} (hx : a.eval x = .int k n)
    (h : ∀ b w', Holds w0 (blk b t [.int k n] :: L) w' → wpList P ops Q rest (a.put o.dst (.pointer (some ⟨b, 0, none⟩))) w') : wpList P ops Q (o :: rest) a w := wpList_box hS hop hw hx (vs := [.int k n]) rfl h
theorem wpList_boxs (hS : Holds w0 L w) {o : Oper} {t : TypeId} {x : Operand} (hop : o.op = .box t x) (hw : Region.wanted o (yielded ops a.tmps) = true) {ao : Option Addr} {n c : Nat} (hx : a.eval x = .slice ao n c)
    (h : ∀ b w', Holds w0 (blk b t [.slice ao n c] :: L) w' → wpList P ops Q rest (a.put o.dst (.pointer (some ⟨b, 0, none⟩))) w') : wpList P ops Q (o :: rest) a w := wpList_box hS hop hw hx (vs := [.slice ao n c]) rfl h
theorem wpList_boxp (hS : Holds w0 L w) {o : Oper} {t : TypeId} {x : Operand} (hop : o.op = .box t x) (hw : Region.wanted o (yielded ops a.tmps) = true) {ao : Option Addr} (hx : a.eval x = .pointer ao)
    (h : ∀ b w', Holds w0 (blk b t [.pointer ao] :: L) w' → wpList P ops Q rest (a.put o.dst (.pointer (some ⟨b, 0, none⟩))) w') : wpList P ops Q (o :: rest) a w := wpList_box hS hop hw hx (vs := [.pointer ao]) rfl h
theorem wpList_boxa (hS : Holds w0 L w) {o : Oper} {t : TypeId} {x : Operand} (hop : o.op = .box t x) (hw : Region.wanted o (yielded ops a.tmps) = true) {vs : List Value} (hx : a.eval x = .agg vs.toArray)
    (h : ∀ b w', Holds w0 (blk b t vs :: L) w' → wpList P ops Q rest (a.put o.dst (.pointer (some ⟨b, 0, none⟩))) w') : wpList P ops Q (o :: rest) a w := wpList_box hS hop hw hx (vs := vs) rfl h

/-- A variable of its own, zero. -/
theorem wpList_alloc (hS : Holds w0 L w) {o : Oper} {t : TypeId} (hop : o.op = .alloc t) (hw : Region.wanted o (yielded ops a.tmps) = true) {v : Value} (hz : (zeroValue t).run P w = .ok v w) {vs : List Value} (hv : v.cells = vs.toArray)
    (h : ∀ b w', Holds w0 (blk b t vs :: L) w' → wpList P ops Q rest (a.put o.dst (.pointer (some ⟨b, 0, none⟩))) w') : wpList P ops Q (o :: rest) a w := by
  refine BigFrame.wpList_want hw fun K hK => ?_
  unfold Oper.wp execOp
  simp only [hop, Instr.alloc, hz, newVar, newRow, newObj, Sem.run_bind, Sem.run, hv, Result.andThen_ok, Sem.run_pure]
  exact hK _ _ (h _ _ (hS.alloc _))

/-- 'make([]T, n)'. -/
theorem wpList_make (hS : Holds w0 L w) {o : Oper} {t : TypeId} {x y : Operand} (hop : o.op = .makeSlice t x y) (hw : Region.wanted o (yielded ops a.tmps) = true) {kx ky : IntKind} {nx ny : Int} (hx : a.eval x = .int kx nx) (hy : a.eval y = .int ky ny)
    (n : Nat) (h0 : nx = n) (h1 : ny = n) {e : TypeId} (ht : P.underlying t = some (.slice e)) {z : Value} {size bytes : Nat} (hinfo : (P.info? e).map (fun i => (i.zero, i.size, i.bytes)) = some (some z, size, bytes)) (hz : z.cells = #[z]) (hs : size = 1)
    (hb : bytes * n ≤ 281474976710656) (hm : n ≤ maxLen)
    (h : ∀ b w', Holds w0 (vec (some ⟨b, 0, none⟩) n e 1 (List.replicate n z) :: L) w' → wpList P ops Q rest (a.put o.dst (.slice (some ⟨b, 0, none⟩) n n)) w') : wpList P ops Q (o :: rest) a w := by
  subst h0; subst h1; subst hs
  obtain ⟨i, hi, hz0, hz1, hz2⟩ := info_parts hinfo
  have hm' : n ≤ 9223372036854775807 := by simp only [maxLen] at hm; omega
  have hb' : (i.bytes : Int) * (n : Int) ≤ 281474976710656 := by
    subst hz2
    have : ((i.bytes * n : Nat) : Int) ≤ 281474976710656 := by omega
    rwa [Int.natCast_mul] at this
  have hr := run_make (P := P) w t e i z ht hi hz0 kx ky n n (by omega) (Int.le_refl _) hb' (by omega)
  refine BigFrame.wpList_want hw fun K hK => ?_
  unfold Oper.wp execOp
  simp only [hop, hx, hy, Sem.run_bind, hr, Result.andThen_ok, Sem.run_pure, Int.toNat_natCast]
  refine hK _ _ (h _ _ ((hS.alloc _).imp fun _ => sat_imp fun g k => .inr ⟨w.heap.size, [], rfl, ?_, by simp, hm⟩))
  unfold pts at k
  rw [k, hz1, hz, Nat.mul_one]
  have := toList_madeCells_one z n
  rw [List.append_nil, ← this]

/-- 'make([]T, 0, n)'. -/
theorem wpList_make0 (hS : Holds w0 L w) {o : Oper} {t : TypeId} {x y : Operand} (hop : o.op = .makeSlice t x y) (hw : Region.wanted o (yielded ops a.tmps) = true) {kx ky : IntKind} {ny : Int} (hx : a.eval x = .int kx 0) (hy : a.eval y = .int ky ny)
    (n : Nat) (h1 : ny = n) {e : TypeId} (ht : P.underlying t = some (.slice e)) {z : Value} {size bytes : Nat} (hinfo : (P.info? e).map (fun i => (i.zero, i.size, i.bytes)) = some (some z, size, bytes))
    (hb : bytes * n ≤ 281474976710656) (hm : n ≤ maxLen)
    (h : ∀ b w', Holds w0 (vec (some ⟨b, 0, none⟩) n e size [] :: L) w' → wpList P ops Q rest (a.put o.dst (.slice (some ⟨b, 0, none⟩) 0 n)) w') : wpList P ops Q (o :: rest) a w := by
  subst h1
  obtain ⟨i, hi, hz0, hz1, hz2⟩ := info_parts hinfo
  have hm' : n ≤ 9223372036854775807 := by simp only [maxLen] at hm; omega
  have hb' : (i.bytes : Int) * (n : Int) ≤ 281474976710656 := by
    subst hz2
    have : ((i.bytes * n : Nat) : Int) ≤ 281474976710656 := by omega
    rwa [Int.natCast_mul] at this
  have hr := run_make (P := P) w t e i z ht hi hz0 kx ky 0 n (Int.le_refl _) (by omega) hb' (by omega)
  refine BigFrame.wpList_want hw fun K hK => ?_
  unfold Oper.wp execOp
  simp only [hop, hx, hy, Sem.run_bind, hr, Result.andThen_ok, Sem.run_pure, Int.toNat_natCast, Int.toNat_zero]
  refine hK _ _ (h _ _ ((hS.alloc _).imp fun _ => sat_imp fun g k => .inr ⟨w.heap.size, (madeCells z.cells (n * i.size)).toList, rfl, ?_, ?_, hm⟩))
  · unfold pts at k
    rw [k]
    simp
  · simp [size_madeCells, hz1]

/-- A literal slice. -/
theorem wpList_lit (hS : Holds w0 L w) {o : Oper} {t n : Nat} {parts : Array (Nat × Operand)} (hop : o.op = .buildSlice t n parts) (hw : Region.wanted o (yielded ops a.tmps) = true) {vs : List Value} {e size : Nat}
    (hr : (Instr.buildSlice t n (parts.map fun (i, x) => (i, a.eval x))).run P w = .ok (.slice (some ⟨w.heap.size, 0, none⟩) n n) (w.alloc (.cells vs.toArray e))) (hl : vs.length = n * size) (hm : n ≤ maxLen)
    (h : ∀ b w', Holds w0 (vec (some ⟨b, 0, none⟩) n e size vs :: L) w' → wpList P ops Q rest (a.put o.dst (.slice (some ⟨b, 0, none⟩) n n)) w') : wpList P ops Q (o :: rest) a w := by
  refine BigFrame.wpList_want hw fun K hK => ?_
  unfold Oper.wp execOp
  simp only [hop, Sem.run_bind, hr, Result.andThen_ok, Sem.run_pure]
  exact hK _ _ (h _ _ ((hS.alloc _).imp fun _ => sat_imp fun g k => .inr ⟨w.heap.size, [], rfl, by rw [List.append_nil]; exact k, by simpa using hl, hm⟩))

theorem run_append_vec {ao : Option Addr} {cap size : Nat} {T : TypeId} {xs : List Value} (hS : Holds w0 (vec ao cap T size xs :: L) w) {t ty : TypeId} (ht : P.underlying t = some (.slice T)) {z : Value} {bytes : Nat} (hinfo : (P.info? T).map (fun i => (i.zero, i.size, i.bytes)) = some (some z, size, bytes)) (hzs : z.cells.size = size) (hsz : 0 < size)
    {n : Nat} (hn : xs.length = n * size) {ad : Addr} {m c : Nat} {news : List Value} (hl : news.length = m * size) (hnews : ∀ j u, news[j]? = some u → w.cell? (ad.add j) = some u) (h1 : ∀ u ∈ news, u.oneCell' = true)
    (hm : n + m ≤ maxLen) (hb : (n + m) * bytes ≤ 140737488355328) :
    ∃ ao' cap' w', (Builtin.append_ #[t, t] ty #[.slice ao n cap, .slice (some ad) m c]).run P w = .ok (.slice ao' (n + m) cap') w' ∧ Holds w0 (vec ao' cap' T size (xs ++ news) :: L) w' := by
  obtain ⟨i, hi, hz0, hz1, hz2⟩ := info_parts hinfo
  subst hz1; subst hz2
  have hm' : n + m ≤ 9223372036854775807 := by simp only [maxLen] at hm; omega
  have hlen : (xs ++ news).length = (n + m) * i.size := by rw [List.length_append, hn, hl, Nat.add_mul]
  have grown : ∀ (old : Nat), old < n + m →
      Holds w0 (vec (some ⟨w.heap.size, 0, none⟩) (grownCap w (n + m) old T) T i.size (xs ++ news) :: L) (w.drew.alloc (.cells (xs.toArray ++ news.toArray ++ Builtin.zeroCells z.cells (grownCap w (n + m) old T - (n + m))) T)) := by
    intro old ho
    have hge := grownCap_ge w (n + m) old T
    have hcm : grownCap w (n + m) old T ≤ maxLen := grownCap_le_maxLen w (n + m) old T hm
    refine (hS.weak.drew.alloc _).imp fun _ => sat_imp fun g k => .inr ⟨w.heap.size, (Builtin.zeroCells z.cells (grownCap w (n + m) old T - (n + m))).toList, rfl, ?_, ?_, hcm⟩
    · unfold pts at k
      rw [show w.heap.size = w.drew.heap.size from rfl, k]
      simp
    · rw [List.length_append, hlen, Array.length_toList, size_zeroCells, hzs, ← Nat.add_mul]
      congr 1
      omega
  have hvec : vec ao cap T i.size xs (fun b => w.heap[b]?) := by
    obtain ⟨h1, h2, _, p, _, d, _⟩ := hS.mem
    rcases d with d | ⟨b, junk, e, f, r⟩
    · exact .inl d
    · exact .inr ⟨b, junk, e, p _ _ f, r⟩
  rcases hvec with ⟨rfl, rfl, rfl⟩ | ⟨b, junk, rfl, hg, hcl, hcm⟩
  · have hn0 : n = 0 := by
      rcases Nat.eq_zero_or_pos n with h | h
      · exact h
      · have := Nat.mul_pos h hsz
        simp at hn; omega
    subst hn0
    by_cases hm0 : m = 0
    · subst hm0
      have hnn : news = [] := List.eq_nil_of_length_eq_zero (by simpa using hl)
      subst hnn
      refine ⟨none, 0, w, ?_, by simpa using hS⟩
      simp [Builtin.append_, run_underlying ht, sizeOf, typeInfo, hi, Builtin.lenOf, Builtin.firstCells, loadCells, loadCellsFrom]
    · have hr := run_append_nil (P := P) w t ty T i z ht hi hz0 ad m c news hl hnews (by omega) (by omega) (by have hb := hb; simp only [Nat.zero_add] at hb; omega)
      have hgr := grown 0 (by omega)
      simp only [Nat.zero_add, List.nil_append, Array.empty_append] at hgr ⊢
      exact ⟨_, _, _, hr, hgr⟩
  · have hxs : xs.length ≤ cap * i.size := by simp only [List.length_append] at hcl; omega
    by_cases hroom : n + m ≤ cap
    · have hfit : n * i.size + news.length ≤ (xs ++ junk).toArray.size := by
        rw [List.size_toArray, hcl, hl, ← Nat.add_mul]
        exact Nat.mul_le_mul_right _ hroom
      have hr := run_append_room (P := P) w t ty T i ht hi b n cap (xs ++ junk).toArray hg ad m c news hl hnews h1 hroom hfit
      have e1 : List.take (n * i.size) (xs ++ junk).toArray.toList = xs := by
        rw [← hn]; simp
      have e2 : List.drop (n * i.size + news.length) (xs ++ junk).toArray.toList = junk.drop news.length := by
        rw [← hn]
        simp [List.drop_append]
      rw [e1, e2] at hr
      refine ⟨_, _, _, hr, ⟨hS.os, hS.tape, hS.output, by simpa [World.setRow] using hS.size, ?_⟩⟩
      rw [heap_setRow_upd w b _ _ T (0, 0) hg]
      refine sat_head (fun g d => ?_) (fun g s d => ?_) hS.mem
      · rcases d with ⟨d, _⟩ | ⟨b', junk', e, f, _⟩
        · cases d
        · cases e; exact ⟨_, f⟩
      · refine .inr ⟨b, junk.drop news.length, rfl, by simp [upd], ?_, hcm⟩
        simp only [List.length_append, List.length_drop] at hcl ⊢
        have : n * i.size + m * i.size ≤ cap * i.size := by rw [← Nat.add_mul]; exact Nat.mul_le_mul_right _ hroom
        omega
    · have holds : ∀ j u, xs[j]? = some u → w.cell? ((⟨b, 0, none⟩ : Addr).add j) = some u := fun j u hj => by
        have hadd : (⟨b, 0, none⟩ : Addr).add j = ⟨b, j, none⟩ := by unfold Addr.add; split <;> simp_all
        rw [hadd]
        simp only [World.cell?, hg]
        simp [List.getElem?_append_left (List.getElem?_eq_some_iff.1 hj).1, hj]
      have hr := run_append_grow (P := P) w t ty T i z ht hi hz0 ⟨b, 0, none⟩ n cap xs hn holds ad m c news hl hnews (by omega) (by omega) (growslice_fits (by omega) hb)
      exact ⟨_, _, _, hr, grown cap (by omega)⟩

/-- 'append' to a slice whose array is in the list. -/
theorem wpList_app (hS : Holds w0 L w) {o : Oper} {t : TypeId} {s x : Operand} (hop : o.op = .call { callee := .builtin .append, args := #[s, x], argTypes := #[t, t] }) (hw : Region.wanted o (yielded ops a.tmps) = true)
    {ao : Option Addr} {n cap : Nat} (hs : a.eval s = .slice ao n cap) {cap' size : Nat} {T : TypeId} {xs : List Value} {rst : List SP} {back : SP → List SP} [F : FindVec L ao cap' T size xs rst back] (hcap : cap' = cap)
    (ht : P.underlying t = some (.slice T)) {z : Value} {bytes : Nat} (hinfo : (P.info? T).map (fun i => (i.zero, i.size, i.bytes)) = some (some z, size, bytes)) (hzs : z.cells.size = size) (hsz : 0 < size)
    (hn : xs.length = n * size) {ad : Addr} {m c : Nat} (hx : a.eval x = .slice (some ad) m c) {news ys : List Value} (hl : news.length = m * size) (hnews : ∀ j u, news[j]? = some u → w.cell? (ad.add j) = some u) (h1 : ∀ u ∈ news, u.oneCell' = true)
    [hys : App xs news ys] (hm : n + m ≤ maxLen) (hb : (n + m) * bytes ≤ 140737488355328)
    (h : ∀ ao' cap' w', Holds w0 (back (vec ao' cap' T size ys)) w' → wpList P ops Q rest (a.put o.dst (.slice ao' (n + m) cap')) w') : wpList P ops Q (o :: rest) a w := by
  subst hcap
  obtain ⟨ao', cap1, w', hr, hS'⟩ := run_append_vec (P := P) (ty := o.type) (hS.imp fun g => F.fore g) ht hinfo hzs hsz hn hl hnews h1 hm hb
  refine BigFrame.wpList_want hw fun K hK => ?_
  unfold Oper.wp execOp
  simp only [hop, resolve, invoke, builtin, Sem.run_bind, Sem.run_pure, Result.andThen_ok, List.map_toArray, List.map_cons, List.map_nil, hs, hx]
  rw [hr]
  rw [hys.eq] at hS'
  exact hK _ _ (h ao' cap1 w' (hS'.imp fun g => F.hind _ g))

/-- 'copy', one cell an element. -/
theorem wpList_cp (hS : Holds w0 L w) {o : Oper} {d s : Operand} {dT sT elem : TypeId} (hop : o.op = .call { callee := .builtin .copy, args := #[d, s], argTypes := #[dT, sT] }) (hw : Region.wanted o (yielded ops a.tmps) = true)
    {b od dl dc : Nat} (hd : a.eval d = .slice (some ⟨b, od, none⟩) dl dc) {sa : Addr} {sl sc : Nat} (hs : a.eval s = .slice (some sa) sl sc) {xs : List Value} {T : TypeId} {mk : List Value → List SP} [F : Find L b xs T mk]
    (hu : P.underlying dT = some (.slice elem)) (hsz : (P.info? elem).map (·.size) = some 1) (news : List Value) (hn : news.length = min sl dl) (hsrc : ∀ j v, news[j]? = some v → w.cell? (sa.add j) = some v) (h1 : ∀ v ∈ news, v.oneCell' = true)
    (hfit : od + news.length ≤ xs.length)
    (h : ∀ w', Holds w0 (mk (setAll xs od news)) w' → wpList P ops Q rest (a.put o.dst (.int .i64 news.length)) w') : wpList P ops Q (o :: rest) a w := by
  obtain ⟨junk, hb⟩ := hS.block b
  have hr := run_copy_row (P := P) w dT sT o.type elem b od dl dc sa sl sc (xs ++ junk).toArray T news hu hsz hb hn hsrc (by simp; omega) h1
  have e : (List.take od (xs ++ junk).toArray.toList ++ news ++ List.drop (od + news.length) (xs ++ junk).toArray.toList) = setAll xs od news ++ junk := by
    rw [setAll_eq news xs od hfit]
    simp only [List.append_assoc]
    rw [List.take_append_of_le_length (by omega), List.drop_append_of_le_length hfit]
  rw [e] at hr
  refine BigFrame.wpList_want hw fun K hK => ?_
  unfold Oper.wp execOp
  simp only [hop, resolve, invoke, builtin, Sem.run_bind, Sem.run_pure, Result.andThen_ok, List.map_toArray, List.map_cons, List.map_nil, hd, hs]
  rw [hr]
  exact hK _ _ (h _ (hS.setRow b _ hb (setAll_length _ _ _)))

/-- The same as one step of a region that draws. -/
theorem step_cp {K : Act → World → Prop} {E : Prop} (hS : Holds w0 L w) {o : Oper} {d s : Operand} {dT sT elem : TypeId} (hop : o.op = .call { callee := .builtin .copy, args := #[d, s], argTypes := #[dT, sT] }) (hw : Region.wanted o (yielded ops a.tmps) = true)
    {b od dl dc : Nat} (hd : a.eval d = .slice (some ⟨b, od, none⟩) dl dc) {sa : Addr} {sl sc : Nat} (hs : a.eval s = .slice (some sa) sl sc) {xs : List Value} {T : TypeId} {mk : List Value → List SP} [F : Find L b xs T mk]
    (hu : P.underlying dT = some (.slice elem)) (hsz : (P.info? elem).map (·.size) = some 1) (news : List Value) (hn : news.length = min sl dl) (hsrc : ∀ j v, news[j]? = some v → w.cell? (sa.add j) = some v) (h1 : ∀ v ∈ news, v.oneCell' = true)
    (hfit : od + news.length ≤ xs.length)
    (h : ∀ w', Holds w0 (mk (setAll xs od news)) w' → K (a.put o.dst (.int .i64 news.length)) w') : if Region.wanted o (yielded ops a.tmps) = true then Oper.wp P o a w K Q else E := by
  obtain ⟨junk, hb⟩ := hS.block b
  have hr := run_copy_row (P := P) w dT sT o.type elem b od dl dc sa sl sc (xs ++ junk).toArray T news hu hsz hb hn hsrc (by simp; omega) h1
  have e : (List.take od (xs ++ junk).toArray.toList ++ news ++ List.drop (od + news.length) (xs ++ junk).toArray.toList) = setAll xs od news ++ junk := by
    rw [setAll_eq news xs od hfit]
    simp only [List.append_assoc]
    rw [List.take_append_of_le_length (by omega), List.drop_append_of_le_length hfit]
  rw [e] at hr
  rw [if_pos hw]
  unfold Oper.wp execOp
  simp only [hop, resolve, invoke, builtin, Sem.run_bind, Sem.run_pure, Result.andThen_ok, List.map_toArray, List.map_cons, List.map_nil, hd, hs]
  rw [hr]
  exact h _ (hS.setRow b _ hb (setAll_length _ _ _))

theorem setAll_get : ∀ (vs xs : List Value) (i j : Nat), i + vs.length ≤ xs.length → (setAll xs i vs)[j]? = if i ≤ j ∧ j < i + vs.length then vs[j - i]? else xs[j]? := by
  intro vs xs i j h
  rw [setAll_eq vs xs i h, List.append_assoc]
  by_cases h1 : j < i
  · rw [List.getElem?_append_left (by simp; omega), if_neg (by omega), List.getElem?_take, if_pos h1]
  · by_cases h2 : j < i + vs.length
    · rw [if_pos ⟨by omega, h2⟩, List.getElem?_append_right (by simp; omega), List.getElem?_append_left (by simp; omega)]
      congr 1
      simp
      omega
    · rw [if_neg (by omega), List.getElem?_append_right (by simp; omega), List.getElem?_append_right (by simp; omega), List.getElem?_drop]
      congr 1
      simp
      omega

/-! ### Memory that was there before -/

class HasOld (L : List SP) (w0 : World) : Prop where
  get : ∀ h, sat L h → ∀ b o, w0.heap[b]? = some o → h b = some o
instance HasOld.here {L : List SP} {w0 : World} : HasOld (old w0 :: L) w0 := ⟨fun _ ⟨_, _, _, p, _, d, _⟩ _ _ e => p _ _ (d _ _ e)⟩
instance HasOld.there {A : SP} {L : List SP} {w0 : World} [F : HasOld L w0] : HasOld (A :: L) w0 := ⟨fun _ ⟨_, _, _, _, q, _, e⟩ _ _ k => q _ _ (F.get _ e _ _ k)⟩

theorem Holds.old_cell (hS : Holds w0 L w) [F : HasOld L w0] {ad : Addr} {v : Value} (h : w0.cell? ad = some v) : w.cell? ad = some v := by
  unfold World.cell? at h ⊢
  split at h
  · rename_i c e f hb
    rw [F.get _ hS.mem _ _ hb]
    exact h
  · cases h

theorem wpList_ldo (hS : Holds w0 L w) {o : Oper} {t : TypeId} {x : Operand} (hop : o.op = .load t x) (hw : Region.wanted o (yielded ops a.tmps) = true) {ad : Addr} (hx : a.eval x = .pointer (some ad)) [F : HasOld L w0] {v : Value} (hc : w0.cell? ad = some v) (hagg : (isAgg t).run P w = .ok false w)
    (h : wpList P ops Q rest (a.put o.dst v) w) : wpList P ops Q (o :: rest) a w := by
  refine BigFrame.wpList_want hw fun K hK => ?_
  unfold Oper.wp execOp
  simp only [hop, hx, Sem.run_bind, run_loadAt_one hagg (hS.old_cell hc), Result.andThen_ok, Sem.run_pure]
  exact hK _ _ h

/-- Some of the pieces, in another order: each place counted among those that are left. -/
def pickL : List SP → List Nat → List SP
  | _, [] => []
  | L, i :: is => match L[i]? with
    | some A => A :: pickL (L.eraseIdx i) is
    | none => []
theorem sat_pick : ∀ (is : List Nat) (L : List SP) {h : HF}, sat L h → sat (pickL L is) h
  | [], _, _, _ => trivial
  | i :: is, L, h, k => by
    unfold pickL
    by_cases hi : i < L.length
    · rw [List.getElem?_eq_getElem hi]
      exact sat_cons (fun _ => sat_pick is _) (sat_perm (perm_front i hi) k)
    · rw [List.getElem?_eq_none (by omega)]
      trivial
theorem Holds.pick (h : Holds w0 L w) (is : List Nat) : Holds w0 (pickL L is) w := h.imp fun _ => sat_pick is L

theorem Holds.skip1 {A B : SP} (h : Holds w0 (A :: B :: L) w) : Holds w0 (A :: L) w := h.imp fun _ => sat_cons fun _ => sat_weak

theorem Holds.oldOnly (hS : Holds w0 L w) [F : HasOld L w0] : Holds w0 [old w0] w :=
  ⟨hS.os, hS.tape, hS.output, hS.size, ⟨fun b => w.heap[b]?, fun _ => none, fun _ => .inr rfl, HF.sub.rfl, fun _ _ e => by simp at e, fun b o e => F.get _ hS.mem b o e, trivial⟩⟩

/-- A call that leaves all that was there, and brings A. -/
theorem Holds.graft {w' : World} (h : Holds w0 L w) {A : SP} (h' : Holds w [A, old w] w') : Holds w0 (A :: L) w' := by
  refine ⟨h'.os.trans h.os, h'.tape.trans h.tape, h'.output.trans h.output, Nat.le_trans h.size h'.size, ?_⟩
  obtain ⟨h1, h2, a, b, c, d, h3, h4, e, f, g, i, _⟩ := h'.mem
  exact ⟨h1, h2, a, b, c, d, sat_mono (fun k o q => f _ _ (i _ _ q)) h.mem⟩

theorem Holds.over {w' : World} (h : Holds w0 L w) (h' : Holds w [old w] w') : Holds w0 L w' := by
  refine ⟨h'.os.trans h.os, h'.tape.trans h.tape, h'.output.trans h.output, Nat.le_trans h.size h'.size, ?_⟩
  obtain ⟨h3, h4, e, f, g, i, _⟩ := h'.mem
  exact sat_mono (fun k o q => f _ _ (i _ _ q)) h.mem

/-- What stands behind a slice, wherever it lies. -/
def RowAt (w : World) (ao : Option Addr) (xs : List Value) : Prop := xs = [] ∨ ∃ b off, ao = some ⟨b, off, none⟩ ∧ ∀ i u, xs[i]? = some u → w.cell? ⟨b, off + i, none⟩ = some u

theorem RowAt.keep {w0 w : World} {L : List SP} {ao : Option Addr} {xs : List Value} (h : RowAt w0 ao xs) (hS : Holds w0 L w) [HasOld L w0] : RowAt w ao xs := by
  rcases h with h | ⟨b, off, e, h⟩
  · exact .inl h
  · exact .inr ⟨b, off, e, fun i u hu => hS.old_cell (h i u hu)⟩

theorem RowAt.at {w : World} {ao : Option Addr} {xs : List Value} (h : RowAt w ao xs) (hn : 0 < xs.length) : ∃ b off, ao = some ⟨b, off, none⟩ ∧ ∀ i u, xs[i]? = some u → w.cell? ⟨b, off + i, none⟩ = some u := by
  rcases h with rfl | h
  · simp at hn
  · exact h

end
end Go.Sep
