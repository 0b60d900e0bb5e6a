/-
  append, copy, bytes as a string: the laws of the machine that a walk asks for. No program in sight.
-/
import Derived.Test.YtofomopdaponbaaGreatDoorZa
import Derived.Laws.CopyRow
import Derived.Laws.BytesArg
import Derived.Test.YtofomopdaponbaaGreatDoorProg
import Derived.DeepKeys
namespace Go.Proofs.YtofomopdaponbaaGreatDoor
open Go.RowKit
set_option linter.unusedVariables false
set_option linter.unusedSimpArgs false

/-- The types of an append: a slice type, its element, the element's cells and bytes. -/
def sliceOk (P : Program) (t e size bytes : Nat) : Bool :=
  match descOf P t with
  | some (.slice e') =>
    match infoOf P e with
    | some i => Nat.beq e' e && Nat.beq i.size size && Nat.beq i.bytes bytes && Nat.blt 0 size && (match i.zero with | some z => Nat.beq z.cells.toList.length size | none => false)
    | none => false
  | _ => false
theorem sliceOk_spec {P : Program} {t e size bytes : Nat} (h : sliceOk P t e size bytes = true) : P.underlying t = some (.slice e) ∧ 0 < size ∧ ∃ i z, P.info? e = some i ∧ i.zero = some z ∧ i.size = size ∧ i.bytes = bytes ∧ z.cells.size = size := by
  unfold sliceOk at h
  split at h
  · rename_i e' hd
    split at h
    · rename_i i hi
      simp only [Bool.and_eq_true] at h
      obtain ⟨⟨⟨⟨h1, h2⟩, h3⟩, h4⟩, h5⟩ := h
      obtain rfl : e' = e := Nat.eq_of_beq_eq_true h1
      split at h5
      · rename_i z hz
        exact ⟨descOf_spec hd, Nat.le_of_ble_eq_true h4, i, z, infoOf_spec hi, hz, Nat.eq_of_beq_eq_true h2, Nat.eq_of_beq_eq_true h3, by simpa using Nat.eq_of_beq_eq_true h5⟩
      · exact Bool.noConfusion h5
    · exact Bool.noConfusion h
  · exact Bool.noConfusion h

section
variable {P : Program} {w : World}
theorem run_append_none (t ty e size bytes : Nat) (hok : sliceOk P t e size bytes = true) (A B : Option Addr) (n c cc : Nat) (hn : n ≤ c) :
    (Builtin.append_ #[t, t] ty #[.slice A n c, .slice B 0 cc]).run P w = .ok (.slice A n c) w := by
  obtain ⟨hu, hs, i, z, hi, hz, h1, h2, h3⟩ := sliceOk_spec hok
  have hsz : ∀ w, (sizeOf e).run P w = .ok size w := fun w => by simp [sizeOf, typeInfo, hi, h1]
  have hfc : ∀ w, (Builtin.firstCells size 0 (.slice B 0 cc)).run P w = .ok #[] w := fun w => by
    cases B <;> simp [Builtin.firstCells, loadCells, loadCellsFrom]
  cases A with
  | none => simp [Builtin.append_, run_underlying hu, hsz, Builtin.lenOf, hn, hfc]
  | some a => simp [Builtin.append_, run_underlying hu, hsz, Builtin.lenOf, hn, hfc, storeCells]
/-- append(x, y...): x is a slice of the call's own (nil, or without room, too), y is read. -/
theorem vFall.append {o : Oper} {ρ : Operand → Value} {K : Value → World → Prop} {x y : Operand} {t : TypeId} (e size bytes : Nat) {F G : List Nat} {A B : Option Addr} {n c m cc : Nat} {xs ys : List Value}
    (ho : o.op = .call { callee := .builtin .append, args := #[x, y], argTypes := #[t, t] }) (hok : sliceOk P t e size bytes = true)
    (hx : ρ x = .slice A n c) (hr : Row w e size F A n c xs) (hy : ρ y = .slice B m cc) (hs : Sl w size G B m ys) (h1 : ∀ u ∈ ys, u.oneCell' = true)
    (hbytes : (n + m) * bytes ≤ 140737488355328) (h63 : n + m ≤ 9223372036854775807)
    (hK : ∀ A' c' F' w', Row w' e size F' A' (n + m) c' (xs ++ ys) → Only F w w' → (∀ k ∈ F', k ∈ F ∨ w.heap.size ≤ k) → K (.slice A' (n + m) c') w') : vFall P o ρ w K := by
  obtain ⟨hu, hsz, i, z, hi, hz, e1, e2, e3⟩ := sliceOk_spec hok
  have hrun : ∀ v w', (Builtin.append_ #[t, t] o.type #[.slice A n c, .slice B m cc]).run P w = .ok v w' → (execOp ρ o).run P w = .ok (.value v) w' := by
    intro v w' h
    unfold execOp
    simp only [ho, resolve, invoke, builtin, Sem.run_bind, Sem.run_pure, Result.andThen_ok, List.map_toArray, List.map_cons, List.map_nil, hx, hy, h]
  rcases Nat.eq_zero_or_pos m with rfl | hm
  · have hys : ys = [] := List.eq_nil_of_length_eq_zero (by rw [hs.1]; simp)
    subst hys
    refine ⟨_, _, ⟨hrun _ _ (run_append_none t o.type e size bytes hok A B n c cc hr.le.1)⟩, ?_⟩
    have := hK A c F w (by rw [List.append_nil]; exact hr) (Only.refl _ _) (fun k hk => .inl hk)
    exact this
  · obtain ⟨b, off, rfl, hG, hb, hc⟩ := hs.2 hm
    obtain ⟨g, cap, w', h2, h3, h4, h5⟩ := run_append_row (P := P) w t o.type e i z size bytes hu hi hz e1 e2 e3 hsz F A n c xs hr ⟨b, off, none⟩ m cc ys hs.1
      (fun j u hu => by rw [add_plain]; exact hc j u hu) h1 hm (by unfold maxLen; omega) hbytes
    refine ⟨_, _, ⟨hrun _ _ h2⟩, hK _ cap [g] w' h3 h4 ?_⟩
    intro k hk
    have : k = g := by simpa using hk
    subst this
    exact h5
end
theorem one_u8 (l : List UInt8) : ∀ u ∈ l.map u8, u.oneCell' = true := by
  intro u hu
  obtain ⟨c, _, rfl⟩ := List.mem_map.1 hu
  rfl
/-- The cells of a new block, as a slice. -/
theorem Sl.new (w : World) (e size : Nat) (xs : List Value) (n : Nat) (h : xs.length = n * size) : Sl (w.alloc (.cells ⟨xs⟩ e)) size [w.heap.size] (some ⟨w.heap.size, 0, none⟩) n xs := by
  refine ⟨h, fun hn => ⟨_, _, rfl, by simp, by simp, fun j u hu => ?_⟩⟩
  rw [Nat.zero_add, (Blk.new w e ⟨xs⟩).cell]
  simpa using hu

/-- A value is a slice of the call's own, made since w: it holds the cells xs. -/
def Own (w w' : World) (e size : Nat) (xs : List Value) (v : Value) : Prop := ∃ A n c F, v = .slice A n c ∧ Row w' e size F A n c xs ∧ Only [] w w' ∧ ∀ k ∈ F, w.heap.size ≤ k
theorem Own.nil (w : World) (e size : Nat) : Own w w e size [] (.slice none 0 0) := ⟨none, 0, 0, [], rfl, Row.nil _ _ _ _, Only.refl _ _, by simp⟩

theorem Blk.at {w : World} {g i : Nat} {t : TypeId} {cs : List Value} {v : Value} (h : Blk w g t ⟨cs⟩) (hc : cs[i]? = some v) : w.cell? ⟨g, i, none⟩ = some v := by
  rw [h.cell]
  simpa using hc
theorem Blk.put {w : World} {g i : Nat} {t : TypeId} {cs : List Value} {u : Value} (h : Blk w g t ⟨cs⟩) : Blk (w.setCell ⟨g, i, none⟩ u) g t ⟨cs.set i u⟩ := by
  have := h.set_ i u
  rwa [show (⟨cs⟩ : Array Value).setIfInBounds i u = ⟨cs.set i u⟩ from Array.ext' (by simp)] at this
theorem Only.put {F : List Nat} {a w : World} {g i : Nat} {u : Value} (h : Only F a w) (hg : g ∈ F ∨ a.heap.size ≤ g) : Only F a (w.setCell ⟨g, i, none⟩ u) := h.setCell hg u
theorem Own.bs {w w' : World} {e : Nat} {l : List UInt8} {v : Value} (h : Own w w' e 1 (l.map u8) v) : ∃ A c G, v = .slice A l.length c ∧ Bs w' G A l.length l ∧ l.length ≤ c ∧ c ≤ 9223372036854775807 ∧ Only [] w w' ∧ ∀ k ∈ G, w.heap.size ≤ k ∧ k < w'.heap.size := by
  obtain ⟨A, n, c, F, rfl, hr, ho, hF⟩ := h
  have hb : Bs w' F A n l := hr.sl
  obtain rfl := hb.len
  exact ⟨A, c, F, rfl, hb, hr.le.1, by have := hr.le.2; unfold maxLen at this; exact this, ho, fun k hk => ⟨hF k hk, hr.lt k hk⟩⟩
theorem Bs.nil_ {w : World} {G : List Nat} {n : Nat} {l : List UInt8} (h : Bs w G none n l) : n = 0 ∧ l = [] := by
  rcases Nat.eq_zero_or_pos n with rfl | hn
  · exact ⟨rfl, List.eq_nil_of_length_eq_zero h.len⟩
  · obtain ⟨b, off, hA, -⟩ := h.some_ hn
    cases hA

theorem Only.nw {w a b : World} {F : List Nat} {g : Nat} (h : Only F w a) (k : Only [g] a b) (hg : w.heap.size ≤ g) : Only F w b :=
  h.trans k (fun x hx => .inr (by
    have : x = g := by simpa using hx
    omega))
theorem ne1 {R : Nat} {G : List Nat} (h : R ∉ G) : ∀ k ∈ G, k ∉ [R] := by
  intro k hk hm
  have : k = R := by simpa using hm
  subst this
  exact h hk
/-- Bytes as a number, the first one the greatest. -/
def beL (l : List UInt8) : Int := l.foldl (fun v c => v * 256 + (c.toNat : Int)) 0
theorem beL_snoc (l : List UInt8) (c : UInt8) : beL (l ++ [c]) = beL l * 256 + (c.toNat : Int) := by simp [beL]
theorem beL_bd (l : List UInt8) : 0 ≤ beL l ∧ beL l < 256 ^ l.length := by
  have key : ∀ r : List UInt8, 0 ≤ beL r.reverse ∧ beL r.reverse < 256 ^ r.reverse.length := by
    intro r
    induction r with
    | nil => simp [beL]
    | cons c r ih =>
      rw [List.reverse_cons, beL_snoc, List.length_append, List.length_singleton, Int.pow_succ]
      have := u8_le c
      have := Int.natCast_nonneg c.toNat
      generalize beL r.reverse = x at *
      generalize (256 : Int) ^ r.reverse.length = y at *
      omega
  simpa using key l.reverse

/-- Is a type's variable many cells? -/
def aggC (P : Program) (t : TypeId) : Bool :=
  match descOf P t with
  | some (.struct _) => true
  | some (.array _ _) => true
  | _ => false
theorem aggC_spec {P : Program} {t : TypeId} {w : World} (h : aggC P t = true) : (isAgg t).run P w = .ok true w := by
  unfold aggC at h
  split at h
  · rename_i hd
    exact isAgg_of hd
  · rename_i hd
    exact isAgg_of hd
  · exact Bool.noConfusion h
theorem loadCells_of {P : Program} {w : World} {b o : Nat} : ∀ (cs : List Value) (i : Nat) (acc : Array Value), (∀ j u, cs[j]? = some u → w.cell? ⟨b, o + (i + j), none⟩ = some u) →
    (loadCellsFrom ⟨b, o, none⟩ i cs.length acc).run P w = .ok (acc ++ ⟨cs⟩) w
  | [], i, acc, _ => by simp [loadCellsFrom]
  | v :: cs, i, acc, h => by
    have h0 : w.cell? ⟨b, o + i, none⟩ = some v := h 0 v rfl
    simp only [List.length_cons, loadCellsFrom, Sem.run_bind, load, Sem.run, add_plain, h0, Result.andThen_ok]
    rw [loadCells_of cs (i + 1) (acc.push v) (fun j u hu => by
      have := h (j + 1) u (by simpa using hu)
      rwa [show i + (j + 1) = i + 1 + j by omega] at this)]
    congr 1
    apply Array.ext'
    simp
theorem Loads.many {P : Program} {t : TypeId} {b o : Nat} {w : World} {cs : List Value} (ha : aggC P t = true) (hs : sizeOfT P t = some cs.length) (hc : ∀ j u, cs[j]? = some u → w.cell? ⟨b, o + j, none⟩ = some u) : Loads P t ⟨b, o, none⟩ w (.agg ⟨cs⟩) := by
  refine ⟨?_⟩
  have := loadCells_of (P := P) (w := w) (b := b) (o := o) cs 0 #[] (fun j u hu => by rw [Nat.zero_add]; exact hc j u hu)
  simp only [loadVar, Sem.run_bind, aggC_spec ha, Result.andThen_ok, if_true, run_sizeOf_of hs, loadCells, this, Sem.run_pure]
  congr 2
  apply Array.ext'
  simp
/-- A block that is loaded whole. -/
theorem Loads.all {P : Program} {t t' : TypeId} {g : Nat} {w : World} {cs : List Value} (hb : Blk w g t' ⟨cs⟩) (ha : aggC P t = true) (hs : sizeOfT P t = some cs.length) : Loads P t ⟨g, 0, none⟩ w (.agg ⟨cs⟩) :=
  Loads.many ha hs fun j u hu => by rw [Nat.zero_add]; exact hb.at hu
/-- A part of a block, loaded. -/
theorem Loads.seg {P : Program} {t t' : TypeId} {g o : Nat} {w : World} {ps cs bs : List Value} (hb : Blk w g t' ⟨ps ++ (cs ++ bs)⟩) (ho : ps.length = o) (ha : aggC P t = true) (hs : sizeOfT P t = some cs.length) : Loads P t ⟨g, o, none⟩ w (.agg ⟨cs⟩) :=
  Loads.many ha hs fun j u hu => hb.at (by
    subst ho
    have hj : j < cs.length := (List.getElem?_eq_some_iff.1 hu).1
    rw [List.getElem?_append_right (by omega), show ps.length + j - ps.length = j by omega, List.getElem?_append_left hj]
    exact hu)
/-- Cells laid over a list's. -/
def splice (old : List Value) (o : Nat) (cs : List Value) : List Value := old.take o ++ (cs ++ old.drop (o + cs.length))
theorem splice_all {old cs : List Value} (h : cs.length = old.length) : splice old 0 cs = cs := by simp [splice, h]
theorem splice_mid (ps old bs cs : List Value) (o : Nat) (ho : ps.length = o) (h : cs.length = old.length) : splice (ps ++ (old ++ bs)) o cs = ps ++ (cs ++ bs) := by
  subst ho
  unfold splice
  rw [List.take_left' rfl, h, ← List.drop_drop, List.drop_left' rfl, List.drop_left' rfl]
theorem splice_len {old cs : List Value} {o : Nat} (h : o + cs.length ≤ old.length) : (splice old o cs).length = old.length := by
  simp only [splice, List.length_append, List.length_take, List.length_drop]
  omega
theorem storeCells_of {P : Program} {t : TypeId} {g o : Nat} : ∀ (cs : List Value) (i : Nat) (old : List Value) (w : World), Blk w g t ⟨old⟩ → o + i + cs.length ≤ old.length → (∀ u ∈ cs, isOne u = true) →
    ∃ w', (storeCells ⟨g, o, none⟩ cs i).run P w = .ok () w' ∧ Blk w' g t ⟨splice old (o + i) cs⟩ ∧ Only [g] w w' ∧ w'.heap.size = w.heap.size
  | [], i, old, w, hb, hl, _ => ⟨w, by simp [storeCells], by simpa [splice] using hb, Only.refl _ _, rfl⟩
  | v :: cs, i, old, w, hb, hl, h1 => by
    simp only [List.length_cons] at hl
    have hv := h1 v List.mem_cons_self
    have hlt : o + i < old.length := by omega
    have hc : w.cell? ⟨g, o + i, none⟩ = some (old[o + i]) := hb.at (List.getElem?_eq_getElem hlt)
    have hf : w.frozen? ⟨g, o + i, none⟩ = false := hb.frozen _
    obtain ⟨w', h2, h3, h4, h5⟩ := storeCells_of (P := P) (o := o) cs (i + 1) (old.set (o + i) v) (w.setCell ⟨g, o + i, none⟩ v) hb.put (by rw [List.length_set]; omega) (fun u hu => h1 u (List.mem_cons_of_mem _ hu))
    refine ⟨w', ?_, ?_, ((Only.refl [g] w).put (.inl (by simp))).trans h4 (fun x hx => .inl hx), by rw [h5]; simp [World.setCell]⟩
    · simp only [storeCells, Sem.run_bind, add_plain]
      have : (store ⟨g, o + i, none⟩ v).run P w = .ok () (w.setCell ⟨g, o + i, none⟩ v) := by
        cases v <;> first | (exact Bool.noConfusion hv) | (simp [store, Sem.run, hc, hf])
      rw [this, Result.andThen_ok]
      exact h2
    · have e : splice (old.set (o + i) v) (o + (i + 1)) cs = splice old (o + i) (v :: cs) := by
        unfold splice
        rw [show o + (i + 1) = o + i + 1 by omega, List.take_succ_eq_append_getElem (show o + i < (old.set (o + i) v).length by rw [List.length_set]; omega), List.take_set_of_le (Nat.le_refl _), List.drop_set_of_lt (show o + i < o + i + 1 + cs.length by omega)]
        simp only [List.getElem_set_self, List.length_cons, List.append_assoc, List.cons_append, List.nil_append]
        rw [show o + i + 1 + cs.length = o + i + (cs.length + 1) by omega]
      rw [← e]
      exact h3
/-- Cells of a block that is known whole, written over. -/
theorem Stores.blk {P : Program} {t t' : TypeId} {g o : Nat} {cs old : List Value} {w : World} (hs : sizeOfT P t = some cs.length) (hb : Blk w g t' ⟨old⟩) (hl : o + cs.length ≤ old.length) (h1 : ∀ u ∈ cs, isOne u = true) :
    ∃ w', Stores P t ⟨g, o, none⟩ (.agg ⟨cs⟩) w w' ∧ Blk w' g t' ⟨splice old o cs⟩ ∧ Only [g] w w' ∧ w'.heap.size = w.heap.size := by
  obtain ⟨w', h2, h3, h4, h5⟩ := storeCells_of (P := P) (o := o) cs 0 old w hb hl h1
  refine ⟨w', ⟨?_⟩, h3, h4, h5⟩
  simp only [storeVar, Sem.run_bind, Value.cells, run_sizeOf_of hs, Result.andThen_ok, List.size_toArray, ne_eq, not_true_eq_false, if_false]
  exact h2

/-- A new variable, written whole. -/
theorem vStore.fresh {P : Program} {t t' : TypeId} {cs : List Value} {zs : Array Value} {w : World} {K : World → Prop} (hs : sizeOfT P t = some cs.length) (hl : zs.size = cs.length) (h1 : ∀ u ∈ cs, isOne u = true)
    (hK : ∀ w2, Blk w2 w.heap.size t' ⟨cs⟩ → Only [] w w2 → w2.heap.size = w.heap.size + 1 → K w2) : ∃ w', Stores P t ⟨w.heap.size, 0, none⟩ (.agg ⟨cs⟩) (w.alloc (.cells zs t')) w' ∧ K w' := by
  obtain ⟨zs⟩ := zs
  have hl' : zs.length = cs.length := by simpa using hl
  obtain ⟨w2, h2, h3, h4, h5⟩ := Stores.blk (P := P) (t := t) (o := 0) (cs := cs) hs (Blk.new w t' ⟨zs⟩) (by omega) h1
  rw [splice_all hl'.symm] at h3
  exact ⟨w2, h2, hK w2 h3 (((Only.refl [] w).alloc _).nw h4 (Nat.le_refl _)) (by rw [h5, World.size_alloc])⟩
/-- Cells written over, in a block that is known whole. -/
theorem vStore.blk {P : Program} {t t' : TypeId} {g o : Nat} {cs old : List Value} {w : World} {K : World → Prop} (hb : Blk w g t' ⟨old⟩) (hs : sizeOfT P t = some cs.length) (hl : o + cs.length ≤ old.length) (h1 : ∀ u ∈ cs, isOne u = true)
    (hK : ∀ w2, Blk w2 g t' ⟨splice old o cs⟩ → Only [g] w w2 → w2.heap.size = w.heap.size → K w2) : ∃ w', Stores P t ⟨g, o, none⟩ (.agg ⟨cs⟩) w w' ∧ K w' := by
  obtain ⟨w2, h2, h3, h4, h5⟩ := Stores.blk (P := P) (t := t) (o := o) (cs := cs) hs hb hl h1
  exact ⟨w2, h2, hK w2 h3 h4 h5⟩
/-- The same, over the whole block. -/
theorem vStore.all {P : Program} {t t' : TypeId} {g : Nat} {cs old : List Value} {w : World} {K : World → Prop} (hb : Blk w g t' ⟨old⟩) (hs : sizeOfT P t = some cs.length) (hl : cs.length = old.length) (h1 : ∀ u ∈ cs, isOne u = true)
    (hK : ∀ w2, Blk w2 g t' ⟨cs⟩ → Only [g] w w2 → w2.heap.size = w.heap.size → K w2) : ∃ w', Stores P t ⟨g, 0, none⟩ (.agg ⟨cs⟩) w w' ∧ K w' :=
  vStore.blk hb hs (by omega) h1 (fun w2 h2 => hK w2 (by rwa [splice_all hl] at h2))
/-- One cell written over. -/
theorem vStore.one {P : Program} {t t' : TypeId} {g i : Nat} {cs : List Value} {v u : Value} {w : World} {K : World → Prop} (hb : Blk w g t' ⟨cs⟩) (hs : sizeOfT P t = some 1) (hv : isOne v = true) (hc : cs[i]? = some u)
    (hK : Blk (w.setCell ⟨g, i, none⟩ v) g t' ⟨cs.set i v⟩ → Only [g] w (w.setCell ⟨g, i, none⟩ v) → K (w.setCell ⟨g, i, none⟩ v)) : ∃ w', Stores P t ⟨g, i, none⟩ v w w' ∧ K w' :=
  ⟨_, Stores.one hs hv (hb.at hc) (hb.frozen _), hK hb.put ((Only.refl _ w).put (.inl (by simp)))⟩

/-- The cells of elements of one size, one behind another. -/
theorem flat_len {α : Type} {enc : α → List Value} {size : Nat} (hlen : ∀ x, (enc x).length = size) (z : List α) : (z.flatMap enc).length = z.length * size := by
  induction z with
  | nil => simp
  | cons x z ih =>
    rw [List.flatMap_cons, List.length_append, hlen, ih, List.length_cons, Nat.succ_mul]
    omega
theorem flat_get {α : Type} {enc : α → List Value} {size : Nat} (hlen : ∀ x, (enc x).length = size) : ∀ (z : List α) (i j : Nat) (hi : i < z.length), j < size → (z.flatMap enc)[i * size + j]? = (enc z[i])[j]?
  | [], i, j, hi, _ => by simp at hi
  | x :: z, 0, j, hi, hj => by
    rw [List.flatMap_cons, Nat.zero_mul, Nat.zero_add, List.getElem?_append_left (by rw [hlen]; exact hj)]
    rfl
  | x :: z, i + 1, j, hi, hj => by
    rw [List.flatMap_cons, List.getElem?_append_right (by rw [hlen, Nat.succ_mul]; omega), hlen, show (i + 1) * size + j - size = i * size + j by rw [Nat.succ_mul]; omega]
    rw [flat_get hlen z i j (by simpa using hi) hj]
    rfl
theorem Sl.elem {P : Program} {t : TypeId} {α : Type} {enc : α → List Value} {w : World} {size n b off i : Nat} {G : List Nat} {z : List α} (h : Sl w size G (some ⟨b, off, none⟩) n (z.flatMap enc)) (hlen : ∀ x, (enc x).length = size) (hi : i < z.length)
    (ha : aggC P t = true) (hs : sizeOfT P t = some size) : Loads P t ⟨b, off + i * size, none⟩ w (.agg ⟨enc z[i]⟩) :=
  Loads.many ha (by rw [hlen]; exact hs) fun j u hu => by
    have hj : j < size := by
      have := (List.getElem?_eq_some_iff.1 hu).1
      rwa [hlen] at this
    rw [Nat.add_assoc]
    exact h.ld (by rw [flat_get hlen z i j hi hj]; exact hu)
theorem Sl.num {α : Type} {enc : α → List Value} {w : World} {size n : Nat} {G : List Nat} {A : Option Addr} {z : List α} (h : Sl w size G A n (z.flatMap enc)) (hlen : ∀ x, (enc x).length = size) (hs : 0 < size) : z.length = n := by
  have := h.1
  rw [flat_len hlen] at this
  exact Nat.eq_of_mul_eq_mul_right hs this
theorem Sl.some_ {w : World} {size n : Nat} {G : List Nat} {A : Option Addr} {xs : List Value} (h : Sl w size G A n xs) (hn : 0 < n) : ∃ b off, A = some ⟨b, off, none⟩ ∧ b ∈ G := by
  obtain ⟨b, off, hA, hG, -⟩ := h.2 hn
  exact ⟨b, off, hA, hG⟩

/-- A block that is a slice's own, whole. -/
theorem Row.of_blk {w : World} {e g size n : Nat} {xs : List Value} (hB : Blk w g e ⟨xs⟩) (hl : xs.length = n * size) (hn : n ≤ maxLen) : Row w e size [g] (some ⟨g, 0, none⟩) n n xs :=
  .inr ⟨g, rfl, rfl, hl, .inr ⟨g, n, ⟨xs⟩, rfl, Nat.zero_le _, hB, Nat.le_refl _, hn, by simpa using hl, by simp [← hl]⟩⟩
/-- Bytes within a block that is known whole. -/
theorem Bs.of_blk {w : World} {t g o : Nat} {ps rs : List Value} {l : List UInt8} (hB : Blk w g t ⟨ps ++ (l.map u8 ++ rs)⟩) (ho : ps.length = o) : Bs w [g] (some ⟨g, o, none⟩) l.length l := by
  refine ⟨by simp, fun hn => ⟨g, o, rfl, by simp, hB.lt, fun j u hu => hB.at ?_⟩⟩
  subst ho
  have hj : j < (l.map u8).length := (List.getElem?_eq_some_iff.1 hu).1
  rw [List.getElem?_append_right (by omega), show ps.length + j - ps.length = j by omega, List.getElem?_append_left hj]
  exact hu
end Go.Proofs.YtofomopdaponbaaGreatDoor
/-
  Bytes that are cloned, and read from the front (package wire's Reader, as long as there are bytes enough).
-/
namespace Go.Proofs.YtofomopdaponbaaGreatDoor
open Go.RowKit
set_option linter.unusedVariables false

set_option maxRecDepth 100000 in
theorem cloneB_does {w : World} {G : List Nat} {A : Option Addr} {n c : Nat} {l : List UInt8} (h : Bs w G A n l) (hn : n ≤ 140737488355328) :
    Does Tryz.prog 50 [.slice A n c] w (fun v w' => Own w w' 5 1 (l.map u8) v) := by
  refine Does.enter (fn := Tryz.f50) (by kernel_rfl) rfl (by kernel_rfl) (by kernel_rfl) ?_
  cases A with
  | none =>
    obtain ⟨rfl, rfl⟩ := h.nil_
    conv => whnf
    exact Own.nil _ _ _
  | some a =>
    conv => whnf
    have h2 := h.o ((Only.refl [] w).alloc (.cells ⟨[]⟩ 5))
    refine vFall.append 5 1 1 rfl (by kernel_rfl) rfl (Row.nil _ _ _ _) rfl h2 (one_u8 l) (by omega) (by omega) ?_
    intro A' c' F' w' hr ho hF
    conv => whnf
    refine ⟨A', 0 + n, c', F', rfl, by simpa using hr, ((Only.refl [] w).alloc _).t0 ho, fun k hk => ?_⟩
    rcases hF k hk with h | h
    · cases h
    · simp at h; omega
/-- A reader: block R; what it has not read yet. -/
structure Rd (w : World) (R : Nat) (l : List UInt8) : Prop where
  ex : ∃ A n c G, Blk w R 244 ⟨[.slice A n c, .int .i64 0]⟩ ∧ Bs w G A n l ∧ n ≤ c ∧ ∀ k ∈ G, k < R
theorem Rd.only {w w' : World} {R : Nat} {l : List UInt8} (h : Rd w R l) (ho : Only [] w w') : Rd w' R l := by
  obtain ⟨A, n, c, G, hb, hs, hn, hG⟩ := h.ex
  exact ⟨A, n, c, G, hb.only ho (by simp), hs.o ho, hn, hG⟩
theorem Rd.far {w w' : World} {R g : Nat} {l : List UInt8} (h : Rd w R l) (ho : Only [g] w w') (hR : R < g) : Rd w' R l := by
  obtain ⟨A, n, c, G, hb, hs, hn, hG⟩ := h.ex
  exact ⟨A, n, c, G, hb.only ho (by simp; omega), hs.only ho (fun k hk => by have := hG k hk; simp; omega), hn, hG⟩
theorem Rd.lt {w : World} {R : Nat} {l : List UInt8} (h : Rd w R l) : R < w.heap.size := by
  obtain ⟨A, n, c, G, hb, hs, hn, hG⟩ := h.ex
  exact hb.lt
set_option maxRecDepth 100000 in
theorem newReader_does {w : World} {G : List Nat} {A : Option Addr} {n c : Nat} {l : List UInt8} (h : Bs w G A n l) (hn : n ≤ 140737488355328) :
    Does Tryz.prog 144 [.slice A n c] w (fun v w' => ∃ R, v = .pointer (some ⟨R, 0, none⟩) ∧ Rd w' R l ∧ Only [] w w' ∧ w.heap.size ≤ R) := by
  refine Does.enter (fn := Tryz.f144) (by kernel_rfl) rfl (by kernel_rfl) (by kernel_rfl) ?_
  conv => whnf
  refine (cloneB_does h hn).mono ?_
  intro v w1 hv
  obtain ⟨A', c', G', rfl, hb, hc, -, ho, hG⟩ := hv.bs
  conv => whnf
  have hs := ho.size
  exact ⟨w1.heap.size, rfl, ⟨A', l.length, c', G', Blk.new _ _ _, hb.o ((Only.refl [] w1).alloc _), hc, fun k hk => (hG k hk).2⟩, ho.t0 ((Only.refl [] w1).alloc _), hs⟩
set_option maxRecDepth 100000 in
theorem take_does {w : World} {R : Nat} {l : List UInt8} {k : Nat} (h : Rd w R l) (hk : k ≤ l.length) :
    Does Tryz.prog 208 [.pointer (some ⟨R, 0, none⟩), .int .i64 k] w (fun v w' => ∃ A c G, v = .tuple ⟨[.slice A k c, .bool true]⟩ ∧ Bs w' G A k (l.take k) ∧ R ∉ G ∧ Rd w' R (l.drop k) ∧ Only [R] w w') := by
  obtain ⟨A, n, c, G, hb, hs, hn, hGR⟩ := h.ex
  have hG : R ∉ G := fun hm => Nat.lt_irrefl _ (hGR _ hm)
  have hl := hs.len
  refine Does.enter (fn := Tryz.f208) (by kernel_rfl) rfl (by kernel_rfl) (by kernel_rfl) ?_
  conv => whnf
  refine ⟨_, Loads.one (by kernel_rfl) (hb.at (i := 1) rfl), ?_⟩
  conv => whnf
  refine ⟨_, Loads.one (by kernel_rfl) (hb.at (i := 0) rfl), ?_⟩
  conv => whnf
  refine VIf.dec (fun ht => absurd ht (by omega)) (fun ht => ?_)
  conv => whnf
  refine ⟨_, Loads.one (by kernel_rfl) (hb.at (i := 0) rfl), ?_⟩
  conv => whnf
  refine ⟨0, k, c, rfl, rfl, rfl, by omega, by omega, Nat.le_refl _, _, k - 0, c - 0, rfl, rfl, rfl, ?_⟩
  conv => whnf
  refine ⟨_, Loads.one (by kernel_rfl) (hb.at (i := 0) rfl), ?_⟩
  conv => whnf
  refine ⟨k, n, c, rfl, rfl, rfl, by omega, by omega, Nat.le_refl _, _, n - k, c - k, rfl, rfl, rfl, ?_⟩
  conv => whnf
  refine ⟨_, Stores.one (by kernel_rfl) rfl (hb.at (i := 0) rfl) (hb.frozen _), ?_⟩
  conv => whnf
  have ho : Only [R] w (w.setCell ⟨R, 0, none⟩ (.slice (if c = k then A else A.map (·.add (k * 1))) (n - k) (c - k))) := (Only.refl _ w).put (.inl (by simp))
  have h1 := hs.cut (lo := 0) (hi := k) (m := c) (by omega) (by omega) (by omega) rfl
  have h2 := hs.cut (lo := k) (hi := n) (m := c) (by omega) (by omega) (Nat.le_refl _) rfl
  rw [Nat.sub_zero, List.drop_zero] at h1
  rw [List.take_of_length_le (by rw [List.length_drop]; omega)] at h2
  exact ⟨_, _, G, rfl, h1.only ho (ne1 hG), hG, ⟨_, _, _, G, hb.put, h2.only ho (ne1 hG), by omega, hGR⟩, ho⟩

theorem take_snoc {l : List UInt8} {k : Nat} (h : k < l.length) : l.take (k + 1) = l.take k ++ [l[k]] := by
  rw [List.take_succ_eq_append_getElem h]
set_option maxRecDepth 100000 in
theorem number_does {w : World} {R : Nat} {l : List UInt8} {k : Nat} (h : Rd w R l) (hk : k ≤ l.length) (hk4 : k ≤ 4) :
    Does Tryz.prog 207 [.pointer (some ⟨R, 0, none⟩), .int .i64 k] w (fun v w' => v = .int .u32 (beL (l.take k)) ∧ Rd w' R (l.drop k) ∧ Only [R] w w') := by
  refine Does.enter (fn := Tryz.f207) (by kernel_rfl) rfl (by kernel_rfl) (by kernel_rfl) ?_
  conv => whnf
  refine (take_does h hk).mono ?_
  rintro v w1 ⟨A, c, G, rfl, hb, hG, hR, ho⟩
  have hl := hb.len
  conv => whnf
  refine VLoop.inv (α := Nat × Int) [(7, 10), (20, 30)] (fun | (i, v) => [(7, .int .u32 v), (20, .int .i64 i)]) (fun | (i, v) => fun w' => w1 = w' ∧ i ≤ k ∧ v = beL ((l.take k).take i)) (fun | (i, v) => k - i) (0, 0) (by kernel_rfl) ⟨rfl, rfl, trivial⟩ ⟨rfl, Nat.zero_le _, rfl⟩ ?_
  rintro ⟨i, v⟩ wr j ⟨rfl, hi, rfl⟩
  conv => whnf
  refine VIf.dec (fun ht => ?_) (fun ht => ?_)
  · have hik : i < (l.take k).length := by omega
    obtain ⟨b, off, rfl, hbG⟩ := hb.some_ (by omega)
    have hbd := beL_bd ((l.take k).take i)
    have hc := u8_le ((l.take k)[i])
    conv => whnf
    refine ⟨_, _, rfl, i, off + i, rfl, by omega, p1 _ _, ?_⟩
    conv => whnf
    refine ⟨u8 ((l.take k)[i]), Loads.one (by kernel_rfl) (hb.ld (List.getElem?_eq_getElem hik)), ?_⟩
    conv => whnf
    have hlen : ((l.take k).take i).length = i := by rw [List.length_take]; omega
    have hpow : beL ((l.take k).take i) < 16777216 := by
      rw [hlen] at hbd
      have : (256 : Int) ^ i ≤ 256 ^ 3 := by
        have := Nat.pow_le_pow_right (n := 256) (by decide) (show i ≤ 3 by omega)
        exact_mod_cast this
      have h3 : (256 : Int) ^ 3 = 16777216 := by decide
      omega
    have e1 : orI .u32 (IntKind.u32.wrap (beL ((l.take k).take i) * pw 8 .u32)) (IntKind.u32.wrap (((l.take k)[i]).toNat : Int)) = beL ((l.take k).take (i + 1)) := by
      have h0 := Int.natCast_nonneg ((l.take k)[i]).toNat
      rw [show pw 8 .u32 = 256 from rfl, wr32, wr32, Int.emod_eq_of_lt (by omega) (by omega), Int.emod_eq_of_lt h0 (by omega), or_256 .u32 hbd.1 h0 (by omega) (by simp only [maxN]; omega), take_snoc hik, beL_snoc]
    exact ⟨(i + 1, _), ⟨congrArg (Value.int IntKind.u32) e1, congrArg (Value.int IntKind.i64) (by rw [wi64]; omega), trivial⟩, ⟨rfl, by omega, rfl⟩, by show k - (i + 1) < k - i; omega⟩
  · obtain rfl : i = k := by omega
    conv => whnf
    refine ⟨?_, hR, ho⟩
    show Value.int IntKind.u32 (beL ((l.take i).take i)) = .int .u32 (beL (l.take i))
    rw [List.take_of_length_le (by omega)]
theorem number_u {w : World} {R : Nat} {l : List UInt8} {k : Nat} (h : Rd w R l) (hk : k ≤ l.length) (hk4 : k ≤ 4) : 0 ≤ beL (l.take k) ∧ beL (l.take k) < 256 ^ k := by
  have := beL_bd (l.take k)
  rwa [List.length_take, Nat.min_eq_left hk] at this
set_option maxRecDepth 100000 in
theorem rU8_does {w : World} {R : Nat} {c : UInt8} {l : List UInt8} (h : Rd w R (c :: l)) :
    Does Tryz.prog 145 [.pointer (some ⟨R, 0, none⟩)] w (fun v w' => v = u8 c ∧ Rd w' R l ∧ Only [R] w w') := by
  refine Does.enter (fn := Tryz.f145) (by kernel_rfl) rfl (by kernel_rfl) (by kernel_rfl) ?_
  conv => whnf
  refine (number_does (k := 1) h (by simp) (by omega)).mono ?_
  rintro v w1 ⟨rfl, hR, ho⟩
  conv => whnf
  refine ⟨congrArg (Value.int IntKind.u8) ?_, hR, ho⟩
  have := u8_le c
  simp [beL, wr8]
  omega
set_option maxRecDepth 100000 in
theorem rU16_does {w : World} {R : Nat} {a b : UInt8} {l : List UInt8} (h : Rd w R (a :: b :: l)) :
    Does Tryz.prog 146 [.pointer (some ⟨R, 0, none⟩)] w (fun v w' => v = .int .u16 ((a.toNat : Int) * 256 + (b.toNat : Int)) ∧ Rd w' R l ∧ Only [R] w w') := by
  refine Does.enter (fn := Tryz.f146) (by kernel_rfl) rfl (by kernel_rfl) (by kernel_rfl) ?_
  conv => whnf
  refine (number_does (k := 2) h (by simp) (by omega)).mono ?_
  rintro v w1 ⟨rfl, hR, ho⟩
  conv => whnf
  refine ⟨congrArg (Value.int IntKind.u16) ?_, hR, ho⟩
  have := u8_le a
  have := u8_le b
  simp [beL, wr16]
  omega
set_option maxRecDepth 100000 in
theorem rBytes_does {w : World} {R : Nat} {l : List UInt8} {k : Nat} (h : Rd w R l) (hk : k ≤ l.length) (hl : l.length ≤ 140737488355328) :
    Does Tryz.prog 147 [.pointer (some ⟨R, 0, none⟩), .int .i64 k] w (fun v w' => ∃ w1, Own w1 w' 5 1 ((l.take k).map u8) v ∧ Only [R] w w1 ∧ Rd w' R (l.drop k)) := by
  refine Does.enter (fn := Tryz.f147) (by kernel_rfl) rfl (by kernel_rfl) (by kernel_rfl) ?_
  conv => whnf
  refine (take_does h hk).mono ?_
  rintro v w1 ⟨A, c, G, rfl, hb, hG, hR, ho⟩
  conv => whnf
  refine (cloneB_does hb (by omega)).mono ?_
  intro v w2 hv
  obtain ⟨A', n', c', F', rfl, hr', ho2, hF'⟩ := hv
  conv => whnf
  exact ⟨w1, ⟨A', n', c', F', rfl, hr', ho2, hF'⟩, ho, hR.only ho2⟩
set_option maxRecDepth 100000 in
theorem rLeft_does {w : World} {R : Nat} {l : List UInt8} (h : Rd w R l) :
    Does Tryz.prog 148 [.pointer (some ⟨R, 0, none⟩)] w (fun v w' => v = .int .i64 l.length ∧ w = w') := by
  obtain ⟨A, n, c, G, hb, hs, hn, hG⟩ := h.ex
  obtain rfl := hs.len
  refine Does.enter (fn := Tryz.f148) (by kernel_rfl) rfl (by kernel_rfl) (by kernel_rfl) ?_
  conv => whnf
  refine ⟨_, Loads.one (by kernel_rfl) (hb.at (i := 0) rfl), ?_⟩
  conv => whnf
  exact ⟨rfl, rfl⟩
end Go.Proofs.YtofomopdaponbaaGreatDoor
/-
  Options (package opts): their shapes, whether bytes are options; the first place at which something holds (package slices).
-/
namespace Go.Proofs.YtofomopdaponbaaGreatDoor
open Go.RowKit
set_option linter.unusedVariables false

/-- The table of shapes. -/
def Shp (w : World) : Prop := w.cell? ⟨1, 0, none⟩ = some (.int .i64 1) ∧ w.cell? ⟨1, 1, none⟩ = some (.int .i64 2)
theorem Shp.only {w w' : World} {F : List Nat} (h : Shp w) (ho : Only F w w') (hF : 1 ∉ F) : Shp w' := ⟨ho.cell h.1 hF, ho.cell h.2 hF⟩
theorem Shp.o {w w' : World} (h : Shp w) (ho : Only [] w w') : Shp w' := h.only ho (by simp)
def shapeI (k : Nat) : Int := if k = 0 then 1 else if k = 1 then 2 else 0
set_option maxRecDepth 100000 in
theorem shape_does {w : World} {k : Nat} (h : Shp w) : Does Tryz.prog 209 [.int .i64 k] w (fun v w' => v = .int .i64 (shapeI k) ∧ w = w') := by
  refine Does.enter (fn := Tryz.f209) (by kernel_rfl) rfl (by kernel_rfl) (by kernel_rfl) ?_
  conv => whnf
  refine VIf.dec (fun ht => ?_) (fun ht => ?_)
  · conv => whnf
    refine ⟨k, k, rfl, by omega, p0 _, ?_⟩
    conv => whnf
    have hk : k = 0 ∨ k = 1 := by omega
    rcases hk with rfl | rfl
    · refine ⟨_, Loads.one (by kernel_rfl) h.1, ?_⟩
      conv => whnf
      exact ⟨rfl, rfl⟩
    · refine ⟨_, Loads.one (by kernel_rfl) h.2, ?_⟩
      conv => whnf
      exact ⟨rfl, rfl⟩
  · conv => whnf
    refine ⟨congrArg (Value.int IntKind.i64) ?_, rfl⟩
    unfold shapeI
    rw [if_neg (by omega), if_neg (by omega)]

/-- The first place at which something holds; -1: there is none. -/
def idxI {α : Type} (p : α → Bool) (z : List α) : Int := match z.findIdx? p with | some i => (i : Int) | none => -1
theorem idx_here {α : Type} {p : α → Bool} {z : List α} {i : Nat} (hi : i < z.length) (h0 : ∀ j (hj : j < i), p (z[j]'(Nat.lt_trans hj hi)) = false) (h1 : p z[i] = true) : idxI p z = (i : Int) := by
  unfold idxI
  rw [List.findIdx?_eq_some_iff_getElem.2 ⟨hi, h1, fun j hj => by rw [h0 j hj]; simp⟩]
theorem idx_none {α : Type} {p : α → Bool} {z : List α} (h0 : ∀ x ∈ z, p x = false) : idxI p z = -1 := by
  unfold idxI
  rw [List.findIdx?_eq_none_iff.2 h0]
set_option maxRecDepth 100000 in
theorem indexB_does {w : World} {G : List Nat} {A : Option Addr} {n c : Nat} {l : List UInt8} {g : FuncId} {first cap : Array Value} {p : UInt8 → Bool} (h : Bs w G A n l) (hn : n ≤ 9223372036854775807)
    (hp : ∀ x ∈ l, ∀ w', Only [] w w' → Does Tryz.prog g (first.toList ++ [u8 x] ++ cap.toList) w' (fun v w2 => v = .bool (p x) ∧ Only [] w' w2)) :
    Does Tryz.prog 251 [.slice A n c, .func (.func g) first cap] w (fun v w' => v = .int .i64 (idxI p l) ∧ Only [] w w') := by
  have hl := h.len
  refine Does.enter (fn := Tryz.f251) (by kernel_rfl) rfl (by kernel_rfl) (by kernel_rfl) ?_
  conv => whnf
  refine VLoop.inv (α := Nat) [(4, 6), (8, 19)] (fun i => [(8, .int .i64 i)]) (fun i w' => Only [] w w' ∧ i ≤ n ∧ ∀ j (hj : j < l.length), j < i → p l[j] = false) (fun i => n - i) 0 (by kernel_rfl) ⟨rfl, trivial⟩ ⟨Only.refl _ _, Nat.zero_le _, fun j hj h => absurd h (Nat.not_lt_zero _)⟩ ?_
  rintro i wr j ⟨ho, hi, hall⟩
  conv => whnf
  refine VIf.dec (fun ht => ?_) (fun ht => ?_)
  · have hi2 : i < l.length := by omega
    have hb := h.o ho
    obtain ⟨b, off, rfl, -⟩ := hb.some_ (by omega)
    conv => whnf
    refine ⟨_, _, rfl, i, off + i, rfl, by omega, p1 _ _, ?_⟩
    conv => whnf
    refine ⟨_, Loads.one (by kernel_rfl) (hb.ld (List.getElem?_eq_getElem hi2)), ?_⟩
    conv => whnf
    refine (hp l[i] (List.getElem_mem hi2) _ ho).mono ?_
    rintro v w2 ⟨rfl, ho2⟩
    conv => whnf
    refine VIf.of (b := p l[i]) (fun hB => ?_) (fun hB => ?_)
    · conv => whnf
      refine ⟨congrArg (Value.int IntKind.i64) ?_, ho.t0 ho2⟩
      rw [idx_here hi2 (fun j hj => hall j (Nat.lt_trans hj hi2) hj) hB]
    · conv => whnf
      refine ⟨i + 1, ⟨congrArg (Value.int IntKind.i64) (by rw [wi64]; omega), trivial⟩, ⟨ho.t0 ho2, by omega, fun j hj hji => ?_⟩, by omega⟩
      rcases Nat.lt_or_ge j i with hlt | hge
      · exact hall j hj hlt
      · obtain rfl : j = i := by omega
        exact hB
  · conv => whnf
    refine ⟨congrArg (Value.int IntKind.i64) ?_, ho⟩
    rw [idx_none]
    intro x hx
    obtain ⟨j, hj, rfl⟩ := List.getElem_of_mem hx
    exact hall j hj (by omega)
set_option maxRecDepth 100000 in
theorem zeroB_does {w : World} {x : UInt8} : Does Tryz.prog 243 [u8 x] w (fun v w' => v = .bool (x != 0) ∧ Only [] w w') := by
  refine Does.enter (fn := Tryz.f243) (by kernel_rfl) rfl (by kernel_rfl) (by kernel_rfl) ?_
  conv => whnf
  refine ⟨congrArg Value.bool ?_, Only.refl _ _⟩
  by_cases h : x = 0
  · subst h
    rfl
  · have h2 : (x.toNat : Int) ≠ 0 := fun e => h (UInt8.toNat_inj.1 (by simpa using e))
    have h3 : (x != 0) = true := by simpa using h
    rw [h3]
    simpa using h2
def allZ (l : List UInt8) : Bool := l.all (fun c => c == 0)
theorem idx_z (l : List UInt8) : decide (idxI (fun c => c != 0) l ≥ 0) = !allZ l := by
  unfold idxI allZ
  cases h : l.findIdx? (fun c => c != 0) with
  | none =>
    rw [List.findIdx?_eq_none_iff] at h
    have : l.all (fun c => c == 0) = true := by
      rw [List.all_eq_true]
      intro x hx
      have := h x hx
      simpa using this
    rw [this]
    rfl
  | some i =>
    obtain ⟨hi, h1, -⟩ := List.findIdx?_eq_some_iff_getElem.1 h
    have : l.all (fun c => c == 0) = false := by
      rw [List.all_eq_false]
      exact ⟨l[i], List.getElem_mem hi, by simpa using h1⟩
    rw [this]
    simp
set_option maxRecDepth 100000 in
theorem containsB_does {w : World} {G : List Nat} {A : Option Addr} {n c : Nat} {l : List UInt8} (h : Bs w G A n l) (hn : n ≤ 9223372036854775807) :
    Does Tryz.prog 242 [.slice A n c, .func (.func 243) #[] #[]] w (fun v w' => v = .bool (!allZ l) ∧ Only [] w w') := by
  refine Does.enter (fn := Tryz.f242) (by kernel_rfl) rfl (by kernel_rfl) (by kernel_rfl) ?_
  conv => whnf
  refine (indexB_does (p := fun c => c != 0) h hn (fun x _ w' _ => zeroB_does)).mono ?_
  rintro v w1 ⟨rfl, ho⟩
  conv => whnf
  exact ⟨congrArg Value.bool (idx_z l), ho⟩
set_option maxRecDepth 100000 in
theorem empty_does {w : World} {G : List Nat} {A : Option Addr} {n c : Nat} {l : List UInt8} (h : Bs w G A n l) (hn : n ≤ 9223372036854775807) :
    Does Tryz.prog 210 [.slice A n c] w (fun v w' => v = .bool (allZ l) ∧ Only [] w w') := by
  refine Does.enter (fn := Tryz.f210) (by kernel_rfl) rfl (by kernel_rfl) (by kernel_rfl) ?_
  conv => whnf
  refine (containsB_does h hn).mono ?_
  rintro v w1 ⟨rfl, ho⟩
  conv => whnf
  exact ⟨congrArg Value.bool (by simp), ho⟩
/-- May bytes stand as options? 0: they may. -/
def optF : Nat → List UInt8 → Int
  | 0, _ => 0
  | _ + 1, [] => 0
  | f + 1, k :: r =>
    if k = 0 then (if allZ r = true then 0 else 40)
    else if k = 1 then optF f r
    else match r with
      | [] => 40
      | m :: _ => if m.toNat < 2 ∨ r.length + 1 < m.toNat then 40 else optF f ((k :: r).drop m.toNat)
theorem optF_nil (f : Nat) : optF f [] = 0 := by cases f <;> rfl
theorem optF_bad {f : Nat} {k q : UInt8} {r : List UInt8} (hk0 : k ≠ 0) (hk1 : k ≠ 1) (h : q.toNat < 2 ∨ (q :: r).length + 1 < q.toNat) : optF (f + 1) (k :: q :: r) = 40 := by
  show (if k = 0 then _ else if k = 1 then _ else if q.toNat < 2 ∨ (q :: r).length + 1 < q.toNat then (40 : Int) else _) = 40
  rw [if_neg hk0, if_neg hk1, if_pos h]
theorem optF_go {f : Nat} {k q : UInt8} {r : List UInt8} (hk0 : k ≠ 0) (hk1 : k ≠ 1) (h : ¬ (q.toNat < 2 ∨ (q :: r).length + 1 < q.toNat)) : optF (f + 1) (k :: q :: r) = optF f ((k :: q :: r).drop q.toNat) := by
  show (if k = 0 then _ else if k = 1 then _ else if q.toNat < 2 ∨ (q :: r).length + 1 < q.toNat then (40 : Int) else _) = _
  rw [if_neg hk0, if_neg hk1, if_neg h]
theorem shape_1 {k : UInt8} (h : shapeI k.toNat = 1) : k = 0 := by
  unfold shapeI at h
  split at h
  · rename_i e
    exact UInt8.toNat_inj.1 (by simpa using e)
  · split at h <;> simp at h
theorem shape_2 {k : UInt8} (h : shapeI k.toNat = 2) : k = 1 := by
  unfold shapeI at h
  split at h
  · simp at h
  · split at h
    · rename_i e
      exact UInt8.toNat_inj.1 (by simpa using e)
    · simp at h
theorem shape_0 {k : UInt8} (h1 : shapeI k.toNat ≠ 1) (h2 : shapeI k.toNat ≠ 2) : k ≠ 0 ∧ k ≠ 1 := by
  constructor
  · rintro rfl
    exact h1 rfl
  · rintro rfl
    exact h2 rfl
set_option maxRecDepth 100000 in
theorem optsParse_does {w : World} {G : List Nat} {A : Option Addr} {n c : Nat} {l : List UInt8} (h : Bs w G A n l) (hs : Shp w) (hn : n ≤ 40) (hc : n ≤ c) (hcm : c ≤ 9223372036854775807) :
    Does Tryz.prog 150 [.slice A n c] w (fun v w' => (∃ B m d, v = .tuple ⟨[.slice B m d, .int .i64 (optF n l)]⟩) ∧ Only [] w w') := by
  have hl := h.len
  refine Does.enter (fn := Tryz.f150) (by kernel_rfl) rfl (by kernel_rfl) (by kernel_rfl) ?_
  conv => whnf
  refine VJoin.cut (α := Option Addr × Nat × Nat) [(2, 75)] (fun s => [(4, .slice s.1 s.2.1 s.2.2)]) (fun s w' => Only [] w w' ∧ optF n l = 0) (by kernel_rfl) ?_ ?_
  · conv => whnf
    refine VLoop.inv (α := Option Addr × Nat × Nat × Nat × Nat) [(2, 75)] (fun | (B, m, d, at_, f) => [(4, .slice B m d), (5, .int .i64 (at_ : Nat))])
      (fun | (B, m, d, at_, f) => fun w' => Only [] w w' ∧ at_ ≤ n ∧ m ≤ at_ ∧ n - at_ ≤ f ∧ optF f (l.drop at_) = optF n l ∧ ∃ F xs, Row w' 249 2 F B m d xs ∧ ∀ k ∈ F, w.heap.size ≤ k)
      (fun | (B, m, d, at_, f) => n - at_) (none, 0, 0, 0, n) (by kernel_rfl) ⟨rfl, rfl, trivial⟩ ⟨Only.refl _ _, Nat.zero_le _, Nat.zero_le _, Nat.le_refl _, rfl, [], [], Row.nil _ _ _ _, by simp⟩ ?_
    rintro ⟨B, m, d, at_, f⟩ wr j ⟨ho, hat, hm, hf, hopt, F, xs, hr, hF⟩
    conv => whnf
    refine VIf.dec (fun ht => ?_) (fun ht => ?_)
    · have hi2 : at_ < l.length := by omega
      obtain ⟨f, rfl⟩ : ∃ g, f = g + 1 := ⟨f - 1, by omega⟩
      have hb := h.o ho
      obtain ⟨b, off, rfl, -⟩ := hb.some_ (by omega)
      have hdrop : l.drop at_ = l[at_] :: l.drop (at_ + 1) := List.drop_eq_getElem_cons hi2
      conv => whnf
      refine ⟨_, _, rfl, at_, off + at_, rfl, by omega, p1 _ _, ?_⟩
      conv => whnf
      refine ⟨_, Loads.one (by kernel_rfl) (hb.ld (List.getElem?_eq_getElem hi2)), ?_⟩
      obtain ⟨k, hk⟩ : ∃ k, l[at_] = k := ⟨_, rfl⟩
      rw [hk] at hdrop ⊢
      rw [hdrop] at hopt
      have hk8 := u8_le k
      have ek : IntKind.i64.wrap (k.toNat : Int) = (k.toNat : Int) := by rw [wi64]; omega
      have ea : IntKind.i64.wrap ((at_ : Int) + 1) = ((at_ + 1 : Nat) : Int) := by rw [wi64]; omega
      have hlr : (l.drop (at_ + 1)).length = n - at_ - 1 := by rw [List.length_drop]; omega
      conv => whnf
      rw [ek]
      refine (shape_does (hs.o ho)).mono ?_
      rintro v w1 ⟨rfl, rfl⟩
      conv => whnf
      refine VIf.eq (fun e1 => ?_) (fun e1 => ?_)
      · have hk0 := shape_1 e1
        subst hk0
        have hcut := hb.cut (lo := at_) (hi := n) (m := c) (by omega) (by omega) (Nat.le_refl _) rfl
        rw [List.take_of_length_le (by rw [List.length_drop]; omega), hdrop] at hcut
        conv => whnf
        refine ⟨at_, n, c, rfl, rfl, rfl, by omega, by omega, by omega, _, n - at_, c - at_, rfl, rfl, rfl, ?_⟩
        conv => whnf
        refine (empty_does hcut (by omega)).mono ?_
        rintro v w1 ⟨rfl, ho1⟩
        have hz : allZ (0 :: l.drop (at_ + 1)) = allZ (l.drop (at_ + 1)) := by simp [allZ]
        conv => whnf
        refine VIf.not (VIf.of (b := allZ (0 :: l.drop (at_ + 1))) (fun hB => ?_) (fun hB => ?_))
        · conv => whnf
          refine ⟨(B, m, d), ⟨rfl, trivial⟩, ho.t0 ho1, ?_⟩
          rw [← hopt]
          rw [hz] at hB
          simp [optF, hB]
        · conv => whnf
          refine ⟨⟨none, 0, 0, ?_⟩, ho.t0 ho1⟩
          rw [← hopt]
          rw [hz] at hB
          simp [optF, hB]
      · conv => whnf
        refine VIf.eq (fun e2 => ?_) (fun e2 => ?_)
        · have hk1 := shape_2 e2
          subst hk1
          conv => whnf
          refine vFall.append 249 2 32 rfl (by kernel_rfl) rfl (hr.alloc _) rfl (Sl.new wr 249 2 [.int .i64 (IntKind.i64.wrap ((1 : UInt8).toNat : Int)), .slice none 0 0] 1 rfl) (by simp [Value.oneCell']) (by omega) (by omega) ?_
          intro B2 d2 F2 w2 hr2 ho2 hF2
          have hal := (Only.refl [] wr).alloc (.cells ⟨[.int .i64 (IntKind.i64.wrap ((1 : UInt8).toNat : Int)), .slice none 0 0]⟩ 249)
          have how : Only [] w w2 := (ho.t0 hal).trans ho2 (fun x hx => .inr (hF x hx))
          conv => whnf
          rw [ea]
          refine ⟨(B2, m + 1, d2, at_ + 1, f), ⟨rfl, rfl, trivial⟩, ⟨how, by omega, by omega, by omega, ?_, F2, _, hr2, fun x hx => (hF2 x hx).elim (hF x) (fun h => Nat.le_trans (Nat.le_trans ho.size hal.size) h)⟩, by show n - (at_ + 1) < n - at_; omega⟩
          rw [← hopt]
          simp [optF]
        · obtain ⟨hk0, hk1⟩ := shape_0 e1 e2
          conv => whnf
          rw [ea]
          refine VIf.dec (fun hs1 => ?_) (fun hs1 => ?_)
          · conv => whnf
            refine ⟨⟨none, 0, 0, ?_⟩, ho⟩
            have : l.drop (at_ + 1) = [] := List.drop_eq_nil_of_le (by omega)
            rw [← hopt, this]
            simp [optF, hk0, hk1]
          · have hi3 : at_ + 1 < l.length := by omega
            have hd2 : l.drop (at_ + 1) = l[at_ + 1] :: l.drop (at_ + 2) := List.drop_eq_getElem_cons hi3
            obtain ⟨q, hq⟩ : ∃ q, l[at_ + 1] = q := ⟨_, rfl⟩
            have hq8 := u8_le q
            rw [hq] at hd2
            have eq : IntKind.i64.wrap (q.toNat : Int) = (q.toNat : Int) := by rw [wi64]; omega
            conv => whnf
            refine ⟨_, _, rfl, at_ + 1, off + (at_ + 1), ea, by omega, p1 _ _, ?_⟩
            conv => whnf
            refine ⟨_, Loads.one (by kernel_rfl) (hb.ld (List.getElem?_eq_getElem hi3)), ?_⟩
            rw [hq]
            conv => whnf
            rw [eq]
            have es : IntKind.i64.wrap ((n : Int) - (at_ : Int)) = ((n - at_ : Nat) : Int) := by rw [wi64]; omega
            have ea2 : IntKind.i64.wrap ((at_ : Int) + 2) = ((at_ + 2 : Nat) : Int) := by rw [wi64]; omega
            have eaq : IntKind.i64.wrap ((at_ : Int) + (q.toNat : Int)) = ((at_ + q.toNat : Nat) : Int) := by rw [wi64]; omega
            conv => whnf
            refine VIf.dec (fun h2 => ?_) (fun h2 => ?_)
            · conv => whnf
              refine ⟨⟨none, 0, 0, ?_⟩, ho⟩
              rw [← hopt, hd2, optF_bad hk0 hk1 (.inl (by omega))]
            · conv => whnf
              refine VIf.dec (fun h3 => ?_) (fun h3 => ?_)
              · rw [es] at h3
                conv => whnf
                refine ⟨⟨none, 0, 0, ?_⟩, ho⟩
                rw [← hopt, hd2, optF_bad hk0 hk1 (.inr (by rw [← hd2, hlr]; omega))]
              · rw [es] at h3
                have hcut := hb.cut (lo := at_ + 2) (hi := at_ + q.toNat) (m := c) (by omega) (by omega) (by omega) rfl
                conv => whnf
                refine ⟨at_ + 2, at_ + q.toNat, c, ea2, eaq, rfl, by omega, by omega, by omega, _, at_ + q.toNat - (at_ + 2), c - (at_ + 2), rfl, rfl, rfl, ?_⟩
                conv => whnf
                refine (cloneB_does hcut (by omega)).mono ?_
                intro v w1 hv
                obtain ⟨A1, c1, G1, rfl, -, -, -, ho1, -⟩ := hv.bs
                have hF1 := hr.only ho1 (by simp)
                conv => whnf
                refine vFall.append 249 2 32 rfl (by kernel_rfl) rfl (hF1.alloc _) rfl (Sl.new w1 249 2 [.int .i64 (IntKind.i64.wrap (k.toNat : Int)), .slice A1 ((l.drop (at_ + 2)).take (at_ + q.toNat - (at_ + 2))).length c1] 1 rfl) (by simp [Value.oneCell']) (by omega) (by omega) ?_
                intro B2 d2 F2 w2 hr2 ho2 hF2
                have hal := ho1.alloc (.cells ⟨[.int .i64 (IntKind.i64.wrap (k.toNat : Int)), .slice A1 ((l.drop (at_ + 2)).take (at_ + q.toNat - (at_ + 2))).length c1]⟩ 249)
                have how : Only [] w w2 := (ho.t0 hal).trans ho2 (fun x hx => .inr (hF x hx))
                conv => whnf
                rw [eaq]
                refine ⟨(B2, m + 1, d2, at_ + q.toNat, f), ⟨rfl, rfl, trivial⟩, ⟨how, by omega, by omega, by omega, ?_, F2, _, hr2, fun x hx => (hF2 x hx).elim (hF x) (fun h => Nat.le_trans (Nat.le_trans ho.size hal.size) h)⟩, by show n - (at_ + q.toNat) < n - at_; omega⟩
                rw [← hopt, hd2, optF_go hk0 hk1 (by rw [← hd2, hlr]; omega), ← hd2, ← hdrop, List.drop_drop]
    · conv => whnf
      refine ⟨(B, m, d), ⟨rfl, trivial⟩, ho, ?_⟩
      rw [← hopt, List.drop_eq_nil_of_le (by omega), optF_nil]
  · rintro ⟨B, m, d⟩ wr j ⟨ho, h0⟩
    conv => whnf
    exact ⟨⟨B, m, d, by rw [h0]⟩, ho⟩
def optsOk (l : List UInt8) : Bool := decide (l.length ≤ 40) && decide (l.length % 4 = 0) && decide (optF l.length l = 0)
set_option maxRecDepth 100000 in
theorem optsValid_does {w : World} {G : List Nat} {A : Option Addr} {n c : Nat} {l : List UInt8} (h : Bs w G A n l) (hs : Shp w) (hc : n ≤ c) (hcm : c ≤ 9223372036854775807) :
    Does Tryz.prog 72 [.slice A n c] w (fun v w' => v = .bool (optsOk l) ∧ Only [] w w') := by
  have hl := h.len
  have hrem : (n : Int).tmod 4 = ((n % 4 : Nat) : Int) := by rw [Int.tmod_eq_emod_of_nonneg (by omega)]; omega
  refine Does.enter (fn := Tryz.f72) (by kernel_rfl) rfl (by kernel_rfl) (by kernel_rfl) ?_
  conv => whnf
  refine VIf.dec (fun h1 => ?_) (fun h1 => ?_)
  · conv => whnf
    refine ⟨congrArg Value.bool ?_, Only.refl _ _⟩
    simp only [optsOk, hl, show ¬ n ≤ 40 by omega, decide_false, Bool.false_and]
  · conv => whnf
    refine VIf.ne (fun h2 => ?_) (fun h2 => ?_)
    · rw [hrem] at h2
      conv => whnf
      refine ⟨congrArg Value.bool ?_, Only.refl _ _⟩
      simp only [optsOk, hl, show ¬ n % 4 = 0 by omega, decide_false, Bool.false_and, Bool.and_false]
    · rw [hrem] at h2
      conv => whnf
      refine (optsParse_does h hs (by omega) hc hcm).mono ?_
      rintro v w1 ⟨⟨B, m, d, rfl⟩, ho⟩
      conv => whnf
      refine ⟨congrArg Value.bool ?_, ho⟩
      simp only [optsOk, hl, show n ≤ 40 by omega, show n % 4 = 0 by omega, decide_true, Bool.true_and]
      by_cases e : optF n l = 0 <;> simp [e]
end Go.Proofs.YtofomopdaponbaaGreatDoor
/-
  Structs and arrays of numbers, compared: addresses.
-/
namespace Go.Proofs.YtofomopdaponbaaGreatDoor
open Go.RowKit
set_option linter.unusedVariables false

/-- Two values of one type of numbers, bools and strings, each of which reads as a list of literals. -/
theorem Eql.deep {P : Program} {t : TypeId} {xo yo : Operand} {xs ys : List Value} {la lb : List Lit} {b : Bool} {D D' : Nat} (m : Nat) (hm : Nat.ble m 9999 = true) (hk : P.keyTypeAt m t = true) (hg : P.eqGuardType P.depth t = false)
    (fx : (Value.agg ⟨xs⟩).formed P t = true) (fy : (Value.agg ⟨ys⟩).formed P t = true)
    (ha : P.keyLits D t xs = some la) (hb : P.keyLits D' t ys = some lb) (hab : b = true ↔ la = lb) : Eql P t xo yo (.agg ⟨xs⟩) (.agg ⟨ys⟩) b := by
  have hle : m ≤ 9999 := Nat.le_of_ble_eq_true hm
  have key : ∀ w, (Op.equal t (.agg ⟨xs⟩) (.agg ⟨ys⟩)).run P w = .ok b w := by
    intro w
    have h := run_equalIn_deep (P := P) (10000 - m) m t hk
    obtain ⟨r, hr, hiff⟩ := h w D D' (.agg ⟨xs⟩) (.agg ⟨ys⟩) la lb fx fy ha hb
    rw [show 10000 - m + m = 10000 by omega] at hr
    have : r = b := by
      rw [Bool.eq_iff_iff, hiff, hab]
    subst this
    exact hr
  have guard : ∀ op w, (eqGuard op t xo yo (.agg ⟨xs⟩) (.agg ⟨ys⟩)).run P w = .ok () w := by
    intro op w
    unfold eqGuard
    cases op <;> first | rfl | (simp [Sem.run_bind, program, Sem.run, hg])
  refine ⟨fun w => ?_, fun w => ?_⟩
  · rw [Sem.run_bind, guard, Result.andThen_ok, show binOp .eql t (.agg ⟨xs⟩) (.agg ⟨ys⟩) = (do pure (.bool (← Op.equal t (.agg ⟨xs⟩) (.agg ⟨ys⟩)))) from rfl, Sem.run_bind, key]
    rfl
  · rw [Sem.run_bind, guard, Result.andThen_ok, show binOp .neq t (.agg ⟨xs⟩) (.agg ⟨ys⟩) = (do pure (.bool (!(← Op.equal t (.agg ⟨xs⟩) (.agg ⟨ys⟩))))) from rfl, Sem.run_bind, key]
    rfl
theorem formed_of {P : Program} {t : TypeId} {xs : List Value} (hw : (match P.underlying t with | some (.struct _) | some (.array _ _) => true | _ => false) = true) (hl : xs.length = P.cellsOf t) : (Value.agg ⟨xs⟩).formed P t = true := by
  unfold Value.formed
  split at hw <;> simp_all

/-- An address: its version, its bytes. -/
abbrev Ad := Int × List UInt8
def okAd (a : Ad) : Prop := -9223372036854775808 ≤ a.1 ∧ a.1 ≤ 9223372036854775807 ∧ a.2.length = 16
def adC (a : Ad) : List Value := .int .i64 a.1 :: a.2.map u8
def litB (c : UInt8) : Lit := .int .u8 (c.toNat : Int)
def adL (a : Ad) : List Lit := .int .i64 a.1 :: a.2.map litB
theorem adC_len {a : Ad} (h : okAd a) : (adC a).length = 17 := by simp [adC, h.2.2]
theorem litB_inj : Function.Injective litB := by
  intro a b h
  simp only [litB, Lit.int.injEq, true_and] at h
  exact UInt8.toNat_inj.1 (by omega)
theorem map_inj {α β : Type} {f : α → β} (hf : Function.Injective f) : ∀ {a b : List α}, a.map f = b.map f ↔ a = b := by
  intro a
  induction a with
  | nil => intro b; cases b <;> simp
  | cons x a ih =>
    intro b
    cases b with
    | nil => simp
    | cons y b =>
      simp only [List.map_cons, List.cons.injEq]
      exact ⟨fun ⟨h1, h2⟩ => ⟨hf h1, ih.1 h2⟩, fun ⟨h1, h2⟩ => ⟨by rw [h1], ih.2 h2⟩⟩
theorem adL_inj {a b : Ad} : adL a = adL b ↔ a = b := by
  obtain ⟨v, x⟩ := a
  obtain ⟨u, y⟩ := b
  simp only [adL, List.cons.injEq, Lit.int.injEq, true_and, Prod.mk.injEq]
  exact and_congr_right fun _ => map_inj litB_inj
theorem mapM_some_of {α β : Type} {f : α → Option β} {g : α → β} : ∀ (l : List α), (∀ x ∈ l, f x = some (g x)) → l.mapM f = some (l.map g)
  | [], _ => rfl
  | x :: l, h => by
    rw [List.mapM_cons, h x List.mem_cons_self, mapM_some_of l (fun y hy => h y (List.mem_cons_of_mem _ hy))]
    rfl
theorem keyLits_int {P : Program} {t : TypeId} {k : IntKind} {n : Int} {D : Nat} (hu : P.underlying t = some (.int k)) (hn : (Lit.int k n).wf = true) : P.keyLits (D + 1) t [.int k n] = some [.int k n] := by
  simp [Program.keyLits, hu, hn]
theorem u8_wf (c : UInt8) : (Lit.int .u8 (c.toNat : Int)).wf = true := by
  have := u8_le c
  simp [Lit.wf, IntKind.min, IntKind.max, IntKind.signed, IntKind.bits]
  omega
theorem i64_wf {x : Int} (h : -9223372036854775808 ≤ x) (h' : x ≤ 9223372036854775807) : (Lit.int .i64 x).wf = true := by
  simp [Lit.wf, IntKind.min, IntKind.max, IntKind.signed, IntKind.bits]
  omega
theorem flat1 (l : List UInt8) : (l.map (fun c => [litB c])).flatten = l.map litB := by
  induction l with
  | nil => rfl
  | cons c l ih => simp [ih]
theorem keyLits_bytes {P : Program} {t e : TypeId} {n D : Nat} (hu : P.underlying t = some (.array n e)) (he : P.underlying e = some (.int .u8)) (hc : P.cellsOf e = 1) (hn : P.cellsOf t = n) {l : List UInt8} (hl : l.length = n) :
    P.keyLits (D + 2) t (l.map u8) = some (l.map litB) := by
  unfold Program.keyLits
  simp only [hu]
  rw [if_pos (by simp [hl, hn])]
  rw [mapM_some_of (g := fun i => [litB (l.getD i 0)]) _ (fun i hi => by
    have hi' : i < l.length := by rw [hl]; exact List.mem_range.1 hi
    rw [hc, Nat.mul_one]
    have : ((l.map u8).drop i).take 1 = [u8 l[i]] := by
      rw [List.drop_eq_getElem_cons (by simpa using hi')]
      simp
    rw [this]
    simp only [List.getD_eq_getElem?_getD, List.getElem?_eq_getElem hi', Option.getD_some]
    exact keyLits_int he (u8_wf _))]
  simp only [Option.map_some, Option.some.injEq]
  have : (List.range n).map (fun i => [litB (l.getD i 0)]) = l.map (fun c => [litB c]) := by
    apply List.ext_getElem
    · simp [hl]
    · intro i h1 h2
      have hi' : i < l.length := by simpa using h2
      simp [List.getD_eq_getElem?_getD, List.getElem?_eq_getElem hi']
  rw [this, flat1]
theorem ad_lits {a : Ad} (h : okAd a) (D : Nat) : Tryz.prog.keyLits (D + 3) 24 (adC a) = some (adL a) := by
  obtain ⟨v, l⟩ := a
  obtain ⟨h1, h2, h3⟩ := h
  have c24 : Tryz.prog.cellsOf 24 = 17 := by kernel_rfl
  have c22 : Tryz.prog.cellsOf 22 = 16 := by kernel_rfl
  have c5 : Tryz.prog.cellsOf 5 = 1 := by kernel_rfl
  have c3 : Tryz.prog.cellsOf 3 = 1 := by kernel_rfl
  have kb := keyLits_bytes (P := Tryz.prog) (D := D) Tryz.underlying22 Tryz.underlying5 c5 c22 h3
  have ki := keyLits_int (P := Tryz.prog) (D := D + 1) Tryz.underlying3 (i64_wf h1 h2)
  unfold Program.keyLits
  simp only [Tryz.underlying24]
  rw [if_pos ⟨by rw [c24]; simp [adC, h3], by kernel_rfl⟩]
  simp only [List.mapM_cons, List.mapM_nil, c3, c22, adC, List.drop_zero, List.take_succ_cons, List.take_zero, List.drop_succ_cons, adL]
  rw [show (List.take 16 (l.map u8)) = l.map u8 from List.take_of_length_le (by simp at h3 ⊢; omega), kb, ki]
  simp
theorem eql_ad {a b : Ad} (ha : okAd a) (hb : okAd b) (xo yo : Operand) : Eql Tryz.prog 24 xo yo (.agg ⟨adC a⟩) (.agg ⟨adC b⟩) (decide (a = b)) :=
  Eql.deep 5 (by decide) (by kernel_rfl) (by kernel_rfl) (formed_of (by kernel_rfl) (by rw [adC_len ha]; kernel_rfl)) (formed_of (by kernel_rfl) (by rw [adC_len hb]; kernel_rfl)) (ad_lits ha 0) (ad_lits hb 0) (by rw [decide_eq_true_iff, adL_inj])
/-- Sixteen bytes. -/
theorem eql_b16 {x y : List UInt8} (hx : x.length = 16) (hy : y.length = 16) (xo yo : Operand) : Eql Tryz.prog 22 xo yo (.agg ⟨x.map u8⟩) (.agg ⟨y.map u8⟩) (decide (x = y)) := by
  have c22 : Tryz.prog.cellsOf 22 = 16 := by kernel_rfl
  have c5 : Tryz.prog.cellsOf 5 = 1 := by kernel_rfl
  exact Eql.deep 5 (by decide) (by kernel_rfl) (by kernel_rfl) (formed_of (by kernel_rfl) (by rw [c22]; simpa using hx)) (formed_of (by kernel_rfl) (by rw [c22]; simpa using hy))
    (keyLits_bytes (D := 0) Tryz.underlying22 Tryz.underlying5 c5 c22 hx) (keyLits_bytes (D := 0) Tryz.underlying22 Tryz.underlying5 c5 c22 hy) (by rw [decide_eq_true_iff, map_inj litB_inj])
end Go.Proofs.YtofomopdaponbaaGreatDoor
/-
  The sums (package sum): fold, Part, Of, Add, Patch.
-/
namespace Go.Proofs.YtofomopdaponbaaGreatDoor
open Go.RowKit
set_option linter.unusedVariables false

/-- A plain sum, brought to its one's complement sum. -/
def foldI (n : Int) : Int := if n = 0 then 0 else (n - 1) % 65535 + 1
theorem foldI_bd {n : Int} (h : 0 ≤ n) : 0 ≤ foldI n ∧ foldI n ≤ 65535 := by unfold foldI; split <;> omega

set_option maxRecDepth 100000 in
theorem fold_does (w : World) (a : Int) (h0 : 0 ≤ a) (h1 : a < 18446744073709551616) : Does Tryz.prog 218 [.int .u64 a] w (fun v w' => v = .int .u16 (foldI a) ∧ w = w') := by
  refine Does.enter (fn := Tryz.f218) (by kernel_rfl) rfl (by kernel_rfl) (by kernel_rfl) ?_
  conv => whnf
  refine VLoop.inv (α := Int) [(0,1),(3,12)] (fun n => [(0, .int .u64 n)]) (fun n w' => w = w' ∧ 0 ≤ n ∧ n < 18446744073709551616 ∧ foldI n = foldI a) (fun n => n.toNat) a (by kernel_rfl) ⟨rfl, trivial⟩ ⟨rfl, h0, h1, rfl⟩ ?_
  rintro n wr j ⟨rfl, hn0, hn1, hf⟩
  conv => whnf
  refine VIf.dec (fun hb => ?_) (fun hb => ?_)
  · have e1 : n / pw 16 .u64 = n / 65536 := rfl
    have e2 := and_u64_65535 hn0 (by omega)
    have e3 : IntKind.u64.wrap (n / pw 16 .u64 + andI .u64 n 65535) = n / 65536 + n % 65536 := by rw [e1, e2, wr64]; omega
    conv => whnf
    refine ⟨_, ⟨rfl, trivial⟩, ⟨rfl, ?_, ?_, ?_⟩, ?_⟩
    · rw [e3]; omega
    · rw [e3]; omega
    · rw [e3, ← hf]; unfold foldI; rw [if_neg (by omega), if_neg (by omega)]; omega
    · rw [e3]; omega
  · conv => whnf
    refine ⟨?_, rfl⟩
    rw [← hf]
    have : IntKind.u16.wrap n = foldI n := by rw [wr16]; unfold foldI; split <;> omega
    exact congrArg (Value.int IntKind.u16) this

/-- The plain sum of bytes, two by two. -/
def wsum : List UInt8 → Int
  | [] => 0
  | [a] => (a.toNat : Int) * 256
  | a :: b :: r => (a.toNat : Int) * 256 + b.toNat + wsum r
theorem wsum_le : ∀ l : List UInt8, 0 ≤ wsum l ∧ wsum l ≤ 65535 * l.length
  | [] => by simp [wsum]
  | [a] => by have := u8_le a; simp [wsum]; omega
  | a :: b :: r => by
    have := u8_le a; have := u8_le b
    have := wsum_le r
    simp only [wsum, List.length_cons]
    omega
theorem two_of {l : List UInt8} (h : 2 ≤ l.length) : ∃ x y r, l = x :: y :: r := by
  match l, h with
  | x :: y :: r, _ => exact ⟨x, y, r, rfl⟩
  | [], h => simp at h
  | [_], h => simp at h
/-- The one's complement sum of bytes. -/
def partL (l : List UInt8) : Int := foldI (wsum l)
theorem partL_bd (l : List UInt8) : 0 ≤ partL l ∧ partL l ≤ 65535 := foldI_bd (wsum_le l).1

set_option maxRecDepth 100000 in
theorem part_does {w : World} {G : List Nat} {A : Option Addr} {n c : Nat} {l : List UInt8} (h : Bs w G A n l) (hn : n ≤ c) (hc : n ≤ 140737488355328) :
    Does Tryz.prog 159 [.slice A n c] w (fun v w' => v = .int .u16 (partL l) ∧ Only [] w w') := by
  have hl := h.len
  have hle := wsum_le l
  refine Does.enter (fn := Tryz.f159) (by kernel_rfl) rfl (by kernel_rfl) (by kernel_rfl) ?_
  conv => whnf
  refine VLoop.inv (α := Option Addr × Nat × Nat × List UInt8 × Int) [(0,1),(3,21)] (fun | (A, n, c, l, acc) => [(0, .slice A n c), (3, .int .u64 acc)])
    (fun | (A, n, c, l1, acc) => fun w' => Only [] w w' ∧ Bs w' G A n l1 ∧ n ≤ c ∧ 0 ≤ acc ∧ acc + wsum l1 = wsum l) (fun | (A, n, c, l, acc) => n)
    (A, n, c, l, 0) (by kernel_rfl) ⟨rfl, rfl, trivial⟩ ⟨Only.refl _ _, h, hn, Int.le_refl _, by simp⟩ ?_
  rintro ⟨A1, n1, c1, l1, acc⟩ wr j ⟨ho, hb, hnc, hacc, hs⟩
  have hl1 := hb.len
  have hle1 := wsum_le l1
  conv => whnf
  refine VIf.dec (fun ht => ?_) (fun ht => ?_)
  · conv => whnf
    obtain ⟨x, y, r, rfl⟩ := two_of (l := l1) (by omega)
    simp only [List.length_cons, wsum] at hl1 hs hle1
    have hx := u8_le x; have hy := u8_le y
    have hle2 := wsum_le r
    obtain ⟨b, off, rfl, hG⟩ := hb.some_ (by omega)
    refine VDraw.q (by kernel_rfl) (by kernel_rfl) ?_
    conv => whnf
    refine ⟨_, _, rfl, 0, off, rfl, by omega, rfl, ?_⟩
    conv => whnf
    refine ⟨u8 x, fun w' hw' => Loads.one (by kernel_rfl) ((hb.o hw').ld (k := 0) rfl), ?_⟩
    conv => whnf
    refine ⟨_, _, rfl, 1, off + 1, rfl, by omega, rfl, ?_⟩
    conv => whnf
    refine ⟨u8 y, fun w' hw' => Loads.one (by kernel_rfl) ((hb.o hw').ld (k := 1) rfl), ?_⟩
    conv => whnf
    intro w2 ho2
    have e1 : IntKind.u64.wrap (acc + orI .u64 (IntKind.u64.wrap (IntKind.u64.wrap (x.toNat : Int) * pw 8 .u64)) (IntKind.u64.wrap (y.toNat : Int))) = acc + (x.toNat * 256 + y.toNat) := by
      simp only [wr64, show pw 8 .u64 = 256 from rfl]
      rw [show (x.toNat : Int) % 18446744073709551616 * 256 % 18446744073709551616 = (x.toNat : Int) * 256 by omega, or_256 .u64 (by omega) (by omega) (by omega) (by simp only [maxN]; omega)]
      omega
    conv => whnf
    refine ⟨2, n1, c1, rfl, rfl, rfl, by omega, by omega, by omega, _, n1 - 2, c1 - 2, rfl, rfl, rfl, ?_⟩
    conv => whnf
    refine ⟨(_, _, _, r, _), ⟨rfl, rfl, trivial⟩, ⟨ho.t0 ho2, ?_, ?_, ?_, ?_⟩, ?_⟩
    · have := (hb.o ho2).cut (lo := 2) (hi := n1) (m := c1) (by omega) (by omega) (Nat.le_refl _) rfl
      simp only [List.drop_succ_cons, List.drop_zero] at this
      rwa [List.take_of_length_le (by omega)] at this
    · omega
    · rw [e1]; omega
    · rw [e1]; omega
    · show n1 - 2 < n1; omega
  · conv => whnf
    refine VJoin.go (by kernel_rfl) ?_
    conv => whnf
    refine VIf.eq (fun h1 => ?_) (fun h1 => ?_)
    · obtain ⟨x, rfl⟩ : ∃ x, l1 = [x] := List.length_eq_one_iff.1 (by omega)
      obtain ⟨b, off, rfl, hG⟩ := hb.some_ (by omega)
      have hx := u8_le x
      simp only [wsum] at hs
      conv => whnf
      refine ⟨_, _, rfl, 0, off, rfl, by omega, rfl, ?_⟩
      conv => whnf
      refine ⟨u8 x, Loads.one (by kernel_rfl) (hb.ld (k := 0) rfl), ?_⟩
      conv => whnf
      have e1 : IntKind.u64.wrap (acc + IntKind.u64.wrap (IntKind.u64.wrap (x.toNat : Int) * pw 8 .u64)) = wsum l := by
        simp only [wr64, show pw 8 .u64 = 256 from rfl]
        omega
      rw [e1]
      refine (fold_does wr _ (by omega) (by omega)).mono ?_
      rintro v w' ⟨rfl, rfl⟩
      conv => whnf
      exact ⟨rfl, ho⟩
    · obtain rfl : l1 = [] := List.eq_nil_of_length_eq_zero (by omega)
      simp only [wsum] at hs
      obtain rfl : acc = wsum l := by omega
      conv => whnf
      refine (fold_does wr _ (by omega) (by omega)).mono ?_
      rintro v w' ⟨rfl, rfl⟩
      conv => whnf
      exact ⟨rfl, ho⟩
end Go.Proofs.YtofomopdaponbaaGreatDoor
