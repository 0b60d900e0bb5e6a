/-
  append, copy, bytes as a string: the laws of the machine that a walk asks for. No program in sight.
-/
import Derived.Test.YtofomopdaponbaaGreatDoorSl
import Derived.Laws.CopyRow
import Derived.Laws.BytesArg
namespace Go.Proofs.YtofomopdaponbaaGreatDoor
open Go.RowKit
set_option linter.unusedVariables false
set_option linter.unusedSimpArgs false

/-- The types of an append: a slice type, its element, the element's cells and bytes. -/
def sliceOk (P : Program) (t e size bytes : Nat) : Bool :=
  match descOf P t with
  | some (.slice e') =>
    match infoOf P e with
    | some i => Nat.beq e' e && Nat.beq i.size size && Nat.beq i.bytes bytes && Nat.blt 0 size && (match i.zero with | some z => Nat.beq z.cells.toList.length size | none => false)
    | none => false
  | _ => false
theorem sliceOk_spec {P : Program} {t e size bytes : Nat} (h : sliceOk P t e size bytes = true) : P.underlying t = some (.slice e) ∧ 0 < size ∧ ∃ i z, P.info? e = some i ∧ i.zero = some z ∧ i.size = size ∧ i.bytes = bytes ∧ z.cells.size = size := by
  unfold sliceOk at h
  split at h
  · rename_i e' hd
    split at h
    · rename_i i hi
      simp only [Bool.and_eq_true] at h
      obtain ⟨⟨⟨⟨h1, h2⟩, h3⟩, h4⟩, h5⟩ := h
      obtain rfl : e' = e := Nat.eq_of_beq_eq_true h1
      split at h5
      · rename_i z hz
        exact ⟨descOf_spec hd, Nat.le_of_ble_eq_true h4, i, z, infoOf_spec hi, hz, Nat.eq_of_beq_eq_true h2, Nat.eq_of_beq_eq_true h3, by simpa using Nat.eq_of_beq_eq_true h5⟩
      · exact Bool.noConfusion h5
    · exact Bool.noConfusion h
  · exact Bool.noConfusion h

section
variable {P : Program} {w : World}
theorem run_append_none (t ty e size bytes : Nat) (hok : sliceOk P t e size bytes = true) (A B : Option Addr) (n c cc : Nat) (hn : n ≤ c) :
    (Builtin.append_ #[t, t] ty #[.slice A n c, .slice B 0 cc]).run P w = .ok (.slice A n c) w := by
  obtain ⟨hu, hs, i, z, hi, hz, h1, h2, h3⟩ := sliceOk_spec hok
  have hsz : ∀ w, (sizeOf e).run P w = .ok size w := fun w => by simp [sizeOf, typeInfo, hi, h1]
  have hfc : ∀ w, (Builtin.firstCells size 0 (.slice B 0 cc)).run P w = .ok #[] w := fun w => by
    cases B <;> simp [Builtin.firstCells, loadCells, loadCellsFrom]
  cases A with
  | none => simp [Builtin.append_, run_underlying hu, hsz, Builtin.lenOf, hn, hfc]
  | some a => simp [Builtin.append_, run_underlying hu, hsz, Builtin.lenOf, hn, hfc, storeCells]
/-- append(x, y...): x is a slice of the call's own (nil, or without room, too), y is read. -/
theorem vFall.append {o : Oper} {ρ : Operand → Value} {K : Value → World → Prop} {x y : Operand} {t : TypeId} (e size bytes : Nat) {F G : List Nat} {A B : Option Addr} {n c m cc : Nat} {xs ys : List Value}
    (ho : o.op = .call { callee := .builtin .append, args := #[x, y], argTypes := #[t, t] }) (hok : sliceOk P t e size bytes = true)
    (hx : ρ x = .slice A n c) (hr : Row w e size F A n c xs) (hy : ρ y = .slice B m cc) (hs : Sl w size G B m ys) (h1 : ∀ u ∈ ys, u.oneCell' = true)
    (hbytes : (n + m) * bytes ≤ 140737488355328) (h63 : n + m ≤ 9223372036854775807)
    (hK : ∀ A' c' F' w', Row w' e size F' A' (n + m) c' (xs ++ ys) → Only F w w' → (∀ k ∈ F', k ∈ F ∨ w.heap.size ≤ k) → K (.slice A' (n + m) c') w') : vFall P o ρ w K := by
  obtain ⟨hu, hsz, i, z, hi, hz, e1, e2, e3⟩ := sliceOk_spec hok
  have hrun : ∀ v w', (Builtin.append_ #[t, t] o.type #[.slice A n c, .slice B m cc]).run P w = .ok v w' → (execOp ρ o).run P w = .ok (.value v) w' := by
    intro v w' h
    unfold execOp
    simp only [ho, resolve, invoke, builtin, Sem.run_bind, Sem.run_pure, Result.andThen_ok, List.map_toArray, List.map_cons, List.map_nil, hx, hy, h]
  rcases Nat.eq_zero_or_pos m with rfl | hm
  · have hys : ys = [] := List.eq_nil_of_length_eq_zero (by rw [hs.1]; simp)
    subst hys
    refine ⟨_, _, ⟨hrun _ _ (run_append_none t o.type e size bytes hok A B n c cc hr.le.1)⟩, ?_⟩
    have := hK A c F w (by rw [List.append_nil]; exact hr) (Only.refl _ _) (fun k hk => .inl hk)
    exact this
  · obtain ⟨b, off, rfl, hG, hb, hc⟩ := hs.2 hm
    obtain ⟨g, cap, w', h2, h3, h4, h5⟩ := run_append_row (P := P) w t o.type e i z size bytes hu hi hz e1 e2 e3 hsz F A n c xs hr ⟨b, off, none⟩ m cc ys hs.1
      (fun j u hu => by rw [add_plain]; exact hc j u hu) h1 hm (by unfold maxLen; omega) hbytes
    refine ⟨_, _, ⟨hrun _ _ h2⟩, hK _ cap [g] w' h3 h4 ?_⟩
    intro k hk
    have : k = g := by simpa using hk
    subst this
    exact h5
end
theorem one_u8 (l : List UInt8) : ∀ u ∈ l.map u8, u.oneCell' = true := by
  intro u hu
  obtain ⟨c, _, rfl⟩ := List.mem_map.1 hu
  rfl
/-- The cells of a new block, as a slice. -/
theorem Sl.new (w : World) (e size : Nat) (xs : List Value) (n : Nat) (h : xs.length = n * size) : Sl (w.alloc (.cells ⟨xs⟩ e)) size [w.heap.size] (some ⟨w.heap.size, 0, none⟩) n xs := by
  refine ⟨h, fun hn => ⟨_, _, rfl, by simp, by simp, fun j u hu => ?_⟩⟩
  rw [Nat.zero_add, (Blk.new w e ⟨xs⟩).cell]
  simpa using hu

/-- A value is a slice of the call's own, made since w: it holds the cells xs. -/
def Own (w w' : World) (e size : Nat) (xs : List Value) (v : Value) : Prop := ∃ A n c F, v = .slice A n c ∧ Row w' e size F A n c xs ∧ Only [] w w' ∧ ∀ k ∈ F, w.heap.size ≤ k
theorem Own.nil (w : World) (e size : Nat) : Own w w e size [] (.slice none 0 0) := ⟨none, 0, 0, [], rfl, Row.nil _ _ _ _, Only.refl _ _, by simp⟩

theorem Blk.at {w : World} {g i : Nat} {t : TypeId} {cs : List Value} {v : Value} (h : Blk w g t ⟨cs⟩) (hc : cs[i]? = some v) : w.cell? ⟨g, i, none⟩ = some v := by
  rw [h.cell]
  simpa using hc
theorem Blk.put {w : World} {g i : Nat} {t : TypeId} {cs : List Value} {u : Value} (h : Blk w g t ⟨cs⟩) : Blk (w.setCell ⟨g, i, none⟩ u) g t ⟨cs.set i u⟩ := by
  have := h.set_ i u
  rwa [show (⟨cs⟩ : Array Value).setIfInBounds i u = ⟨cs.set i u⟩ from Array.ext' (by simp)] at this
theorem Only.put {F : List Nat} {a w : World} {g i : Nat} {u : Value} (h : Only F a w) (hg : g ∈ F ∨ a.heap.size ≤ g) : Only F a (w.setCell ⟨g, i, none⟩ u) := h.setCell hg u
theorem Own.bs {w w' : World} {e : Nat} {l : List UInt8} {v : Value} (h : Own w w' e 1 (l.map u8) v) : ∃ A c G, v = .slice A l.length c ∧ Bs w' G A l.length l ∧ l.length ≤ c ∧ c ≤ 9223372036854775807 ∧ Only [] w w' ∧ ∀ k ∈ G, w.heap.size ≤ k ∧ k < w'.heap.size := by
  obtain ⟨A, n, c, F, rfl, hr, ho, hF⟩ := h
  have hb : Bs w' F A n l := hr.sl
  obtain rfl := hb.len
  exact ⟨A, c, F, rfl, hb, hr.le.1, by have := hr.le.2; unfold maxLen at this; exact this, ho, fun k hk => ⟨hF k hk, hr.lt k hk⟩⟩
theorem Bs.nil_ {w : World} {G : List Nat} {n : Nat} {l : List UInt8} (h : Bs w G none n l) : n = 0 ∧ l = [] := by
  rcases Nat.eq_zero_or_pos n with rfl | hn
  · exact ⟨rfl, List.eq_nil_of_length_eq_zero h.len⟩
  · obtain ⟨b, off, hA, -⟩ := h.some_ hn
    cases hA

theorem Only.nw {w a b : World} {F : List Nat} {g : Nat} (h : Only F w a) (k : Only [g] a b) (hg : w.heap.size ≤ g) : Only F w b :=
  h.trans k (fun x hx => .inr (by
    have : x = g := by simpa using hx
    omega))
theorem ne1 {R : Nat} {G : List Nat} (h : R ∉ G) : ∀ k ∈ G, k ∉ [R] := by
  intro k hk hm
  have : k = R := by simpa using hm
  subst this
  exact h hk
/-- Bytes as a number, the first one the greatest. -/
def beL (l : List UInt8) : Int := l.foldl (fun v c => v * 256 + (c.toNat : Int)) 0
theorem beL_snoc (l : List UInt8) (c : UInt8) : beL (l ++ [c]) = beL l * 256 + (c.toNat : Int) := by simp [beL]
theorem beL_bd (l : List UInt8) : 0 ≤ beL l ∧ beL l < 256 ^ l.length := by
  have key : ∀ r : List UInt8, 0 ≤ beL r.reverse ∧ beL r.reverse < 256 ^ r.reverse.length := by
    intro r
    induction r with
    | nil => simp [beL]
    | cons c r ih =>
      rw [List.reverse_cons, beL_snoc, List.length_append, List.length_singleton, Int.pow_succ]
      have := u8_le c
      have := Int.natCast_nonneg c.toNat
      generalize beL r.reverse = x at *
      generalize (256 : Int) ^ r.reverse.length = y at *
      omega
  simpa using key l.reverse

/-- Is a type's variable many cells? -/
def aggC (P : Program) (t : TypeId) : Bool :=
  match descOf P t with
  | some (.struct _) => true
  | some (.array _ _) => true
  | _ => false
theorem aggC_spec {P : Program} {t : TypeId} {w : World} (h : aggC P t = true) : (isAgg t).run P w = .ok true w := by
  unfold aggC at h
  split at h
  · rename_i hd
    exact isAgg_of hd
  · rename_i hd
    exact isAgg_of hd
  · exact Bool.noConfusion h
theorem loadCells_of {P : Program} {w : World} {b o : Nat} : ∀ (cs : List Value) (i : Nat) (acc : Array Value), (∀ j u, cs[j]? = some u → w.cell? ⟨b, o + (i + j), none⟩ = some u) →
    (loadCellsFrom ⟨b, o, none⟩ i cs.length acc).run P w = .ok (acc ++ ⟨cs⟩) w
  | [], i, acc, _ => by simp [loadCellsFrom]
  | v :: cs, i, acc, h => by
    have h0 : w.cell? ⟨b, o + i, none⟩ = some v := h 0 v rfl
    simp only [List.length_cons, loadCellsFrom, Sem.run_bind, load, Sem.run, add_plain, h0, Result.andThen_ok]
    rw [loadCells_of cs (i + 1) (acc.push v) (fun j u hu => by
      have := h (j + 1) u (by simpa using hu)
      rwa [show i + (j + 1) = i + 1 + j by omega] at this)]
    congr 1
    apply Array.ext'
    simp
theorem Loads.many {P : Program} {t : TypeId} {b o : Nat} {w : World} {cs : List Value} (ha : aggC P t = true) (hs : sizeOfT P t = some cs.length) (hc : ∀ j u, cs[j]? = some u → w.cell? ⟨b, o + j, none⟩ = some u) : Loads P t ⟨b, o, none⟩ w (.agg ⟨cs⟩) := by
  refine ⟨?_⟩
  have := loadCells_of (P := P) (w := w) (b := b) (o := o) cs 0 #[] (fun j u hu => by rw [Nat.zero_add]; exact hc j u hu)
  simp only [loadVar, Sem.run_bind, aggC_spec ha, Result.andThen_ok, if_true, run_sizeOf_of hs, loadCells, this, Sem.run_pure]
  congr 2
  apply Array.ext'
  simp
/-- A block that is loaded whole. -/
theorem Loads.all {P : Program} {t t' : TypeId} {g : Nat} {w : World} {cs : List Value} (hb : Blk w g t' ⟨cs⟩) (ha : aggC P t = true) (hs : sizeOfT P t = some cs.length) : Loads P t ⟨g, 0, none⟩ w (.agg ⟨cs⟩) :=
  Loads.many ha hs fun j u hu => by rw [Nat.zero_add]; exact hb.at hu
/-- A part of a block, loaded. -/
theorem Loads.seg {P : Program} {t t' : TypeId} {g o : Nat} {w : World} {ps cs bs : List Value} (hb : Blk w g t' ⟨ps ++ (cs ++ bs)⟩) (ho : ps.length = o) (ha : aggC P t = true) (hs : sizeOfT P t = some cs.length) : Loads P t ⟨g, o, none⟩ w (.agg ⟨cs⟩) :=
  Loads.many ha hs fun j u hu => hb.at (by
    subst ho
    have hj : j < cs.length := (List.getElem?_eq_some_iff.1 hu).1
    rw [List.getElem?_append_right (by omega), show ps.length + j - ps.length = j by omega, List.getElem?_append_left hj]
    exact hu)
/-- Cells laid over a list's. -/
def splice (old : List Value) (o : Nat) (cs : List Value) : List Value := old.take o ++ (cs ++ old.drop (o + cs.length))
theorem splice_all {old cs : List Value} (h : cs.length = old.length) : splice old 0 cs = cs := by simp [splice, h]
theorem splice_mid (ps old bs cs : List Value) (o : Nat) (ho : ps.length = o) (h : cs.length = old.length) : splice (ps ++ (old ++ bs)) o cs = ps ++ (cs ++ bs) := by
  subst ho
  unfold splice
  rw [List.take_left' rfl, h, ← List.drop_drop, List.drop_left' rfl, List.drop_left' rfl]
theorem splice_len {old cs : List Value} {o : Nat} (h : o + cs.length ≤ old.length) : (splice old o cs).length = old.length := by
  simp only [splice, List.length_append, List.length_take, List.length_drop]
  omega
theorem storeCells_of {P : Program} {t : TypeId} {g o : Nat} : ∀ (cs : List Value) (i : Nat) (old : List Value) (w : World), Blk w g t ⟨old⟩ → o + i + cs.length ≤ old.length → (∀ u ∈ cs, isOne u = true) →
    ∃ w', (storeCells ⟨g, o, none⟩ cs i).run P w = .ok () w' ∧ Blk w' g t ⟨splice old (o + i) cs⟩ ∧ Only [g] w w' ∧ w'.heap.size = w.heap.size
  | [], i, old, w, hb, hl, _ => ⟨w, by simp [storeCells], by simpa [splice] using hb, Only.refl _ _, rfl⟩
  | v :: cs, i, old, w, hb, hl, h1 => by
    simp only [List.length_cons] at hl
    have hv := h1 v List.mem_cons_self
    have hlt : o + i < old.length := by omega
    have hc : w.cell? ⟨g, o + i, none⟩ = some (old[o + i]) := hb.at (List.getElem?_eq_getElem hlt)
    have hf : w.frozen? ⟨g, o + i, none⟩ = false := hb.frozen _
    obtain ⟨w', h2, h3, h4, h5⟩ := storeCells_of (P := P) (o := o) cs (i + 1) (old.set (o + i) v) (w.setCell ⟨g, o + i, none⟩ v) hb.put (by rw [List.length_set]; omega) (fun u hu => h1 u (List.mem_cons_of_mem _ hu))
    refine ⟨w', ?_, ?_, ((Only.refl [g] w).put (.inl (by simp))).trans h4 (fun x hx => .inl hx), by rw [h5]; simp [World.setCell]⟩
    · simp only [storeCells, Sem.run_bind, add_plain]
      have : (store ⟨g, o + i, none⟩ v).run P w = .ok () (w.setCell ⟨g, o + i, none⟩ v) := by
        cases v <;> first | (exact Bool.noConfusion hv) | (simp [store, Sem.run, hc, hf])
      rw [this, Result.andThen_ok]
      exact h2
    · have e : splice (old.set (o + i) v) (o + (i + 1)) cs = splice old (o + i) (v :: cs) := by
        unfold splice
        rw [show o + (i + 1) = o + i + 1 by omega, List.take_succ_eq_append_getElem (show o + i < (old.set (o + i) v).length by rw [List.length_set]; omega), List.take_set_of_le (Nat.le_refl _), List.drop_set_of_lt (show o + i < o + i + 1 + cs.length by omega)]
        simp only [List.getElem_set_self, List.length_cons, List.append_assoc, List.cons_append, List.nil_append]
        rw [show o + i + 1 + cs.length = o + i + (cs.length + 1) by omega]
      rw [← e]
      exact h3
/-- Cells of a block that is known whole, written over. -/
theorem Stores.blk {P : Program} {t t' : TypeId} {g o : Nat} {cs old : List Value} {w : World} (hs : sizeOfT P t = some cs.length) (hb : Blk w g t' ⟨old⟩) (hl : o + cs.length ≤ old.length) (h1 : ∀ u ∈ cs, isOne u = true) :
    ∃ w', Stores P t ⟨g, o, none⟩ (.agg ⟨cs⟩) w w' ∧ Blk w' g t' ⟨splice old o cs⟩ ∧ Only [g] w w' ∧ w'.heap.size = w.heap.size := by
  obtain ⟨w', h2, h3, h4, h5⟩ := storeCells_of (P := P) (o := o) cs 0 old w hb hl h1
  refine ⟨w', ⟨?_⟩, h3, h4, h5⟩
  simp only [storeVar, Sem.run_bind, Value.cells, run_sizeOf_of hs, Result.andThen_ok, List.size_toArray, ne_eq, not_true_eq_false, if_false]
  exact h2

/-- A new variable, written whole. -/
theorem vStore.fresh {P : Program} {t t' : TypeId} {cs : List Value} {zs : Array Value} {w : World} {K : World → Prop} (hs : sizeOfT P t = some cs.length) (hl : zs.size = cs.length) (h1 : ∀ u ∈ cs, isOne u = true)
    (hK : ∀ w2, Blk w2 w.heap.size t' ⟨cs⟩ → Only [] w w2 → w2.heap.size = w.heap.size + 1 → K w2) : ∃ w', Stores P t ⟨w.heap.size, 0, none⟩ (.agg ⟨cs⟩) (w.alloc (.cells zs t')) w' ∧ K w' := by
  obtain ⟨zs⟩ := zs
  have hl' : zs.length = cs.length := by simpa using hl
  obtain ⟨w2, h2, h3, h4, h5⟩ := Stores.blk (P := P) (t := t) (o := 0) (cs := cs) hs (Blk.new w t' ⟨zs⟩) (by omega) h1
  rw [splice_all hl'.symm] at h3
  exact ⟨w2, h2, hK w2 h3 (((Only.refl [] w).alloc _).nw h4 (Nat.le_refl _)) (by rw [h5, World.size_alloc])⟩
/-- Cells written over, in a block that is known whole. -/
theorem vStore.blk {P : Program} {t t' : TypeId} {g o : Nat} {cs old : List Value} {w : World} {K : World → Prop} (hb : Blk w g t' ⟨old⟩) (hs : sizeOfT P t = some cs.length) (hl : o + cs.length ≤ old.length) (h1 : ∀ u ∈ cs, isOne u = true)
    (hK : ∀ w2, Blk w2 g t' ⟨splice old o cs⟩ → Only [g] w w2 → w2.heap.size = w.heap.size → K w2) : ∃ w', Stores P t ⟨g, o, none⟩ (.agg ⟨cs⟩) w w' ∧ K w' := by
  obtain ⟨w2, h2, h3, h4, h5⟩ := Stores.blk (P := P) (t := t) (o := o) (cs := cs) hs hb hl h1
  exact ⟨w2, h2, hK w2 h3 h4 h5⟩
/-- The same, over the whole block. -/
theorem vStore.all {P : Program} {t t' : TypeId} {g : Nat} {cs old : List Value} {w : World} {K : World → Prop} (hb : Blk w g t' ⟨old⟩) (hs : sizeOfT P t = some cs.length) (hl : cs.length = old.length) (h1 : ∀ u ∈ cs, isOne u = true)
    (hK : ∀ w2, Blk w2 g t' ⟨cs⟩ → Only [g] w w2 → w2.heap.size = w.heap.size → K w2) : ∃ w', Stores P t ⟨g, 0, none⟩ (.agg ⟨cs⟩) w w' ∧ K w' :=
  vStore.blk hb hs (by omega) h1 (fun w2 h2 => hK w2 (by rwa [splice_all hl] at h2))
/-- One cell written over. -/
theorem vStore.one {P : Program} {t t' : TypeId} {g i : Nat} {cs : List Value} {v u : Value} {w : World} {K : World → Prop} (hb : Blk w g t' ⟨cs⟩) (hs : sizeOfT P t = some 1) (hv : isOne v = true) (hc : cs[i]? = some u)
    (hK : Blk (w.setCell ⟨g, i, none⟩ v) g t' ⟨cs.set i v⟩ → Only [g] w (w.setCell ⟨g, i, none⟩ v) → K (w.setCell ⟨g, i, none⟩ v)) : ∃ w', Stores P t ⟨g, i, none⟩ v w w' ∧ K w' :=
  ⟨_, Stores.one hs hv (hb.at hc) (hb.frozen _), hK hb.put ((Only.refl _ w).put (.inl (by simp)))⟩

/-- The cells of elements of one size, one behind another. -/
theorem flat_len {α : Type} {enc : α → List Value} {size : Nat} (hlen : ∀ x, (enc x).length = size) (z : List α) : (z.flatMap enc).length = z.length * size := by
  induction z with
  | nil => simp
  | cons x z ih =>
    rw [List.flatMap_cons, List.length_append, hlen, ih, List.length_cons, Nat.succ_mul]
    omega
theorem flat_get {α : Type} {enc : α → List Value} {size : Nat} (hlen : ∀ x, (enc x).length = size) : ∀ (z : List α) (i j : Nat) (hi : i < z.length), j < size → (z.flatMap enc)[i * size + j]? = (enc z[i])[j]?
  | [], i, j, hi, _ => by simp at hi
  | x :: z, 0, j, hi, hj => by
    rw [List.flatMap_cons, Nat.zero_mul, Nat.zero_add, List.getElem?_append_left (by rw [hlen]; exact hj)]
    rfl
  | x :: z, i + 1, j, hi, hj => by
    rw [List.flatMap_cons, List.getElem?_append_right (by rw [hlen, Nat.succ_mul]; omega), hlen, show (i + 1) * size + j - size = i * size + j by rw [Nat.succ_mul]; omega]
    rw [flat_get hlen z i j (by simpa using hi) hj]
    rfl
theorem Sl.elem {P : Program} {t : TypeId} {α : Type} {enc : α → List Value} {w : World} {size n b off i : Nat} {G : List Nat} {z : List α} (h : Sl w size G (some ⟨b, off, none⟩) n (z.flatMap enc)) (hlen : ∀ x, (enc x).length = size) (hi : i < z.length)
    (ha : aggC P t = true) (hs : sizeOfT P t = some size) : Loads P t ⟨b, off + i * size, none⟩ w (.agg ⟨enc z[i]⟩) :=
  Loads.many ha (by rw [hlen]; exact hs) fun j u hu => by
    have hj : j < size := by
      have := (List.getElem?_eq_some_iff.1 hu).1
      rwa [hlen] at this
    rw [Nat.add_assoc]
    exact h.ld (by rw [flat_get hlen z i j hi hj]; exact hu)
theorem Sl.num {α : Type} {enc : α → List Value} {w : World} {size n : Nat} {G : List Nat} {A : Option Addr} {z : List α} (h : Sl w size G A n (z.flatMap enc)) (hlen : ∀ x, (enc x).length = size) (hs : 0 < size) : z.length = n := by
  have := h.1
  rw [flat_len hlen] at this
  exact Nat.eq_of_mul_eq_mul_right hs this
theorem Sl.some_ {w : World} {size n : Nat} {G : List Nat} {A : Option Addr} {xs : List Value} (h : Sl w size G A n xs) (hn : 0 < n) : ∃ b off, A = some ⟨b, off, none⟩ ∧ b ∈ G := by
  obtain ⟨b, off, hA, hG, -⟩ := h.2 hn
  exact ⟨b, off, hA, hG⟩

/-- A block that is a slice's own, whole. -/
theorem Row.of_blk {w : World} {e g size n : Nat} {xs : List Value} (hB : Blk w g e ⟨xs⟩) (hl : xs.length = n * size) (hn : n ≤ maxLen) : Row w e size [g] (some ⟨g, 0, none⟩) n n xs :=
  .inr ⟨g, rfl, rfl, hl, .inr ⟨g, n, ⟨xs⟩, rfl, Nat.zero_le _, hB, Nat.le_refl _, hn, by simpa using hl, by simp [← hl]⟩⟩
/-- Bytes within a block that is known whole. -/
theorem Bs.of_blk {w : World} {t g o : Nat} {ps rs : List Value} {l : List UInt8} (hB : Blk w g t ⟨ps ++ (l.map u8 ++ rs)⟩) (ho : ps.length = o) : Bs w [g] (some ⟨g, o, none⟩) l.length l := by
  refine ⟨by simp, fun hn => ⟨g, o, rfl, by simp, hB.lt, fun j u hu => hB.at ?_⟩⟩
  subst ho
  have hj : j < (l.map u8).length := (List.getElem?_eq_some_iff.1 hu).1
  rw [List.getElem?_append_right (by omega), show ps.length + j - ps.length = j by omega, List.getElem?_append_left hj]
  exact hu
end Go.Proofs.YtofomopdaponbaaGreatDoor
