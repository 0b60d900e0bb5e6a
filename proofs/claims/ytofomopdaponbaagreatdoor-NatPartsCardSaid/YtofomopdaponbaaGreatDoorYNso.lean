/-
  Mappings are sorted by their outside ports (Maps; slices.SortFunc of at most twelve elements).
-/
import Derived.Test.YtofomopdaponbaaGreatDoorYNnw
namespace Go.Proofs.YtofomopdaponbaaGreatDoor
open Go.RowKit
set_option linter.unusedVariables false
set_option linter.unusedSimpArgs false

set_option maxRecDepth 100000 in
theorem isNaN_does {w : World} {a : Int} : Does Tryz.prog 143 [.int .i64 a] w (fun v w' => v = .bool false ∧ w = w') := by
  refine Does.enter (fn := Tryz.f143) (by kernel_rfl) rfl (by kernel_rfl) (by kernel_rfl) ?_
  conv => whnf
  exact ⟨congrArg Value.bool (by simp), rfl⟩
def cmpI (a b : Int) : Int := if a < b then -1 else if a > b then 1 else 0
set_option maxRecDepth 100000 in
theorem compare_does {w : World} {a b : Int} : Does Tryz.prog 68 [.int .i64 a, .int .i64 b] w (fun v w' => v = .int .i64 (cmpI a b) ∧ w = w') := by
  refine Does.enter (fn := Tryz.f68) (by kernel_rfl) rfl (by kernel_rfl) (by kernel_rfl) ?_
  conv => whnf
  refine isNaN_does.mono ?_
  rintro v w1 ⟨rfl, rfl⟩
  conv => whnf
  refine isNaN_does.mono ?_
  rintro v w1 ⟨rfl, rfl⟩
  conv => whnf
  refine VIf.dec (fun h => ?_) (fun h => ?_)
  · conv => whnf
    exact ⟨congrArg (Value.int .i64) (by unfold cmpI; rw [if_pos h]), rfl⟩
  conv => whnf
  refine VIf.dec (fun h2 => ?_) (fun h2 => ?_)
  · conv => whnf
    exact ⟨congrArg (Value.int .i64) (by unfold cmpI; rw [if_neg h, if_pos h2]), rfl⟩
  conv => whnf
  exact ⟨congrArg (Value.int .i64) (by unfold cmpI; rw [if_neg h, if_neg h2]), rfl⟩
set_option maxRecDepth 100000 in
theorem byOut_does {w : World} {a b : Nm} : Does Tryz.prog 67 [.agg ⟨nmC a⟩, .agg ⟨nmC b⟩] w (fun v w' => v = .int .i64 (cmpI a.out b.out) ∧ Only [] w w') := by
  have hA := (Only.alloc (Only.refl [] w) (.cells ⟨nmC a⟩ 48)).alloc (.cells ⟨nmC b⟩ 48)
  have b1 := (Blk.new w 48 ⟨nmC a⟩).alloc (.cells ⟨nmC b⟩ 48)
  have b2 := Blk.new (w.alloc (.cells ⟨nmC a⟩ 48)) 48 ⟨nmC b⟩
  refine Does.enter (fn := Tryz.f67) (by kernel_rfl) rfl (by kernel_rfl) (by kernel_rfl) ?_
  conv => whnf
  refine ⟨_, Loads.one (by kernel_rfl) (b1.at (nmC_out a)), ?_⟩
  conv => whnf
  refine ⟨_, Loads.one (by kernel_rfl) (b2.at (nmC_out b)), ?_⟩
  conv => whnf
  refine compare_does.mono ?_
  rintro v w1 ⟨rfl, rfl⟩
  conv => whnf
  exact ⟨rfl, hA⟩
theorem one_nm (z : List Nm) : ∀ u ∈ z.flatMap nmC, u.oneCell' = true := one_nmCs z
set_option maxRecDepth 100000 in
theorem cloneNm_does {w : World} {G : List Nat} {A : Option Addr} {n c : Nat} {z : List Nm} (h : Sl w 20 G A n (z.flatMap nmC)) (hn : n ≤ 4294967296) :
    Does Tryz.prog 65 [.slice A n c] w (fun v w' => Own w w' 48 20 (z.flatMap nmC) v) := by
  refine Does.enter (fn := Tryz.f65) (by kernel_rfl) rfl (by kernel_rfl) (by kernel_rfl) ?_
  cases A with
  | none =>
    obtain ⟨rfl, e⟩ := h.none_
    rw [e]
    conv => whnf
    exact Own.nil _ _ _
  | some a =>
    conv => whnf
    have h2 := h.o ((Only.refl [] w).alloc (.cells ⟨[]⟩ 48))
    refine vFall.append 48 20 48 rfl (by kernel_rfl) rfl (Row.nil _ _ _ _) rfl h2 (one_nmCs z) (by omega) (by omega) ?_
    intro A' c' F' w' hr ho hF
    conv => whnf
    refine ⟨A', 0 + n, c', F', rfl, by simpa using hr, ((Only.refl [] w).alloc _).t0 ho, fun k hk => ?_⟩
    rcases hF k hk with h | h
    · cases h
    · simp at h; omega
/-- Ordered from lo up to i, but for what stands at j. -/
def Ord (z : List Nm) (lo i j : Nat) : Prop := ∀ a b (hb : b < z.length) (hab : a < b), lo ≤ a → b < i → b ≠ j → (z[a]'(by omega)).out ≤ z[b].out
def Sorted (z : List Nm) (lo i : Nat) : Prop := ∀ a b (hb : b < z.length) (hab : a < b), lo ≤ a → b < i → (z[a]'(by omega)).out ≤ z[b].out
theorem Sorted.ord {z : List Nm} {lo i : Nat} (h : Sorted z lo i) : Ord z lo (i + 1) i := fun a b hb hab hla hbi hne => h a b hb hab hla (by omega)
theorem Ord.done {z : List Nm} {lo i j : Nat} (h : Ord z lo i j) (hj : j < z.length) (hji : j < i) (h0 : ∀ (hp : lo < j), (z[j - 1]'(by omega)).out ≤ z[j].out) : Sorted z lo i := by
  intro a b hb hab hla hbi
  by_cases e : b = j
  · subst e
    have h1 := h0 (by omega)
    by_cases e2 : a = b - 1
    · subst e2
      exact h1
    · have := h a (b - 1) (by omega) (by omega) hla (by omega) (by omega)
      omega
  · exact h a b hb hab hla hbi e
def swapD (z : List Nm) (j : Nat) : List Nm := (z.set j (z.getD (j - 1) nm0)).set (j - 1) (z.getD j nm0)
theorem swapD_len (z : List Nm) (j : Nat) : (swapD z j).length = z.length := by simp [swapD]
theorem swapD_perm {z : List Nm} {j : Nat} (hj : j < z.length) (hp : 0 < j) : (swapD z j).Perm z := by
  have h1 : z.getD (j - 1) nm0 = z[j - 1]'(by omega) := by simp [List.getD_eq_getElem?_getD, List.getElem?_eq_getElem (show j - 1 < z.length by omega)]
  have h2 : z.getD j nm0 = z[j] := by simp [List.getD_eq_getElem?_getD, List.getElem?_eq_getElem hj]
  unfold swapD
  rw [h1, h2]
  exact List.set_set_perm hj (by omega)
theorem swapD_get {z : List Nm} {j a : Nat} (hj : j < z.length) (hp : 0 < j) (ha : a < z.length) : (swapD z j)[a]'(by rw [swapD_len]; exact ha) = if a = j - 1 then z[j] else if a = j then z[j - 1]'(by omega) else z[a] := by
  have h1 : z.getD (j - 1) nm0 = z[j - 1]'(by omega) := by simp [List.getD_eq_getElem?_getD, List.getElem?_eq_getElem (show j - 1 < z.length by omega)]
  have h2 : z.getD j nm0 = z[j] := by simp [List.getD_eq_getElem?_getD, List.getElem?_eq_getElem hj]
  unfold swapD
  simp only [h1, h2, List.getElem_set]
  by_cases e1 : a = j - 1
  · subst e1; simp
  · by_cases e2 : a = j
    · subst e2; simp [e1, Ne.symm e1]
    · simp [e1, e2, Ne.symm e1, Ne.symm e2]
theorem Ord.swap {z : List Nm} {lo i j : Nat} (h : Ord z lo i j) (hj : j < z.length) (hp : lo < j) (hlt : z[j].out < (z[j - 1]'(by omega)).out) : Ord (swapD z j) lo i (j - 1) := by
  intro a b hb0 hab hla hbi hne
  have hb : b < z.length := by rw [← swapD_len z j]; exact hb0
  rw [swapD_get hj (by omega) (by omega), swapD_get hj (by omega) hb]
  by_cases e1 : a = j - 1
  · subst e1
    rw [if_pos rfl, if_neg hne]
    by_cases e2 : b = j
    · subst e2
      rw [if_pos rfl]
      omega
    · rw [if_neg e2]
      exact h j b hb (by omega) (by omega) hbi e2
  · rw [if_neg e1, if_neg hne]
    by_cases e2 : a = j
    · subst e2
      rw [if_pos rfl, if_neg (by omega)]
      exact h (a - 1) b hb (by omega) (by omega) hbi (by omega)
    · rw [if_neg e2]
      by_cases e3 : b = j
      · subst e3
        rw [if_pos rfl]
        exact h a (b - 1) (by omega) (by omega) hla (by omega) (by omega)
      · rw [if_neg e3]
        exact h a b hb hab hla hbi e3
/-- The same elements, in another order between lo and hi. -/
structure Mix (z z' : List Nm) (lo hi : Nat) : Prop where
  perm : z'.Perm z
  out : ∀ k (h : k < z.length) (h' : k < z'.length), k < lo ∨ hi ≤ k → z'[k] = z[k]
theorem Mix.refl (z : List Nm) (lo hi : Nat) : Mix z z lo hi := ⟨.refl _, fun _ _ _ _ => rfl⟩
theorem Mix.len {z z' : List Nm} {lo hi : Nat} (h : Mix z z' lo hi) : z'.length = z.length := h.perm.length_eq
theorem Mix.trans {x y z : List Nm} {lo hi : Nat} (h : Mix x y lo hi) (k : Mix y z lo hi) : Mix x z lo hi :=
  ⟨k.perm.trans h.perm, fun i h1 h2 h3 => (k.out i (by rw [h.len]; exact h1) h2 h3).trans (h.out i h1 (by rw [h.len]; exact h1) h3)⟩
theorem Mix.swapD {z : List Nm} {lo hi j : Nat} (hj : j < z.length) (hp : lo < j) (hh : j < hi) : Mix z (swapD z j) lo hi :=
  ⟨swapD_perm hj (by omega), fun k h1 h2 h3 => by
    rw [swapD_get hj (by omega) h1, if_neg (by omega), if_neg (by omega)]⟩
/-- What the order function does. -/
def ByOut (cmp : Value) : Prop := ∃ g, cmp = .func (.func g) #[] #[] ∧ ∀ (a b : Nm) (w : World), Does Tryz.prog g [.agg ⟨nmC a⟩, .agg ⟨nmC b⟩] w (fun v w' => v = .int .i64 (cmpI a.out b.out) ∧ Only [] w w')
theorem cmpI_neg (a b : Int) : decide (cmpI a b < 0) = decide (a < b) := by
  unfold cmpI
  split
  · rename_i h
    simp [h]
  · rename_i h
    split <;> simp [h]
set_option maxRecDepth 100000 in
theorem insertion_does {w : World} {g n c lo hi : Nat} {z : List Nm} (h : Row w 48 20 [g] (some ⟨g, 0, none⟩) n c (z.flatMap nmC)) (hz : z.length = n) (hlo : lo ≤ hi) (hhi : hi ≤ n) (hn : n ≤ 4294967296) :
    Does Tryz.prog 197 [.slice (some ⟨g, 0, none⟩) n c, .int .i64 lo, .int .i64 hi, .func (.func 67) #[] #[]] w (fun v w' => v = .tuple ⟨[]⟩ ∧ ∃ z', Mix z z' lo hi ∧ Sorted z' lo hi ∧ Row w' 48 20 [g] (some ⟨g, 0, none⟩) n c (z'.flatMap nmC) ∧ Only [g] w w') := by
  have e1 : IntKind.i64.wrap ((lo : Int) + 1) = ((lo + 1 : Nat) : Int) := by rw [wi64]; omega
  refine Does.enter (fn := Tryz.f197) (by kernel_rfl) rfl (by kernel_rfl) (by kernel_rfl) ?_
  conv => whnf
  refine VLoop.inv (α := Nat × List Nm) [(8, 10), (12, 53)] (fun s => [(8, .int .i64 (s.1 : Nat))]) (fun s w' => lo < s.1 ∧ (s.1 ≤ hi ∨ s.1 = lo + 1) ∧ Mix z s.2 lo hi ∧ Sorted s.2 lo s.1 ∧ Row w' 48 20 [g] (some ⟨g, 0, none⟩) n c (s.2.flatMap nmC) ∧ Only [g] w w') (fun s => hi - s.1) (lo + 1, z) (by kernel_rfl) ⟨congrArg (Value.int .i64) e1, trivial⟩ ⟨Nat.lt_succ_self _, .inr rfl, Mix.refl _ _ _, fun a b _ _ _ _ => by omega, h, Only.refl _ _⟩ ?_
  rintro ⟨i, x⟩ wr j ⟨hli, hih, hmix, hsort, hrow, ho⟩
  dsimp only at hli hih hmix hsort hrow
  have hxl : x.length = n := by rw [hmix.len, hz]
  conv => whnf
  refine VIf.dec (fun ht => ?_) (fun ht => ?_)
  rotate_left
  · conv => whnf
    exact ⟨rfl, x, hmix, fun a b hb hab hla hbi => hsort a b hb hab hla (by omega), hrow, ho⟩
  have hih : i < hi := by omega
  conv => whnf
  refine VLoop.inv (α := Nat × List Nm) [(9, 10), (18, 53)] (fun s => [(9, .int .i64 (s.1 : Nat))]) (fun s w' => lo ≤ s.1 ∧ s.1 ≤ i ∧ Mix z s.2 lo hi ∧ Ord s.2 lo (i + 1) s.1 ∧ Row w' 48 20 [g] (some ⟨g, 0, none⟩) n c (s.2.flatMap nmC) ∧ Only [g] w w') (fun s => s.1) (i, x) (by kernel_rfl) ⟨rfl, trivial⟩ ⟨Nat.le_of_lt hli, Nat.le_refl _, hmix, hsort.ord, hrow, ho⟩ ?_
  clear hmix hsort hrow ho hxl
  rintro ⟨j, y⟩ wr jf ⟨hlj, hji, hmix, hord, hrow, ho⟩
  dsimp only at hlj hji hmix hord hrow
  have hyl : y.length = n := by rw [hmix.len, hz]
  have hj : j < y.length := by omega
  have leave : ∀ w', Only [] wr w' → (∀ (hp : lo < j), (y[j - 1]'(by omega)).out ≤ y[j].out) → lo < i + 1 ∧ (i + 1 ≤ hi ∨ i + 1 = lo + 1) ∧ Mix z y lo hi ∧ Sorted y lo (i + 1) ∧ Row w' 48 20 [g] (some ⟨g, 0, none⟩) n c (y.flatMap nmC) ∧ Only [g] w w' := fun w' ho' h0 =>
    ⟨by omega, .inl (by omega), hmix, hord.done hj (by omega) h0, hrow.only ho' (by simp), ho.f0 ho'⟩
  have ei : IntKind.i64.wrap ((i : Int) + 1) = ((i + 1 : Nat) : Int) := by rw [wi64]; omega
  conv => whnf
  refine VDraw.abs fun N0 hN => ?_
  refine VDraw.q (by kernel_rfl) (by kernel_rfl) ?_
  conv => whnf
  refine VIf.dec (fun hgt => ?_) (fun hgt => ?_)
  rotate_left
  · have hgt : ¬ (j : Int) > (lo : Int) := hgt
    conv => whnf
    intro w2 ho2
    refine hN _ _ ?_
    conv => whnf
    refine ⟨(i + 1, y), ⟨congrArg (Value.int .i64) ei, trivial⟩, leave w2 ho2 (fun hp => by omega), by show hi - (i + 1) < hi - i; omega⟩
  have hgt : (j : Int) > (lo : Int) := hgt
  have ej : IntKind.i64.wrap ((j : Int) - 1) = ((j - 1 : Nat) : Int) := by rw [wi64]; omega
  conv => whnf
  refine ⟨_, _, rfl, j, j * 20, rfl, by omega, (Nat.zero_add _).symm, ?_⟩
  conv => whnf
  refine ⟨.agg ⟨nmC y[j]⟩, fun w' hw' => by have := (hrow.sl.o hw').elem (P := Tryz.prog) (t := 48) nmC_len hj (by kernel_rfl) (by kernel_rfl); rwa [Nat.zero_add] at this, ?_⟩
  conv => whnf
  rw [ej]
  refine ⟨_, _, rfl, j - 1, (j - 1) * 20, rfl, by omega, (Nat.zero_add _).symm, ?_⟩
  conv => whnf
  refine ⟨.agg ⟨nmC (y[j - 1]'(by omega))⟩, fun w' hw' => by have := (hrow.sl.o hw').elem (P := Tryz.prog) (t := 48) nmC_len (show j - 1 < y.length by omega) (by kernel_rfl) (by kernel_rfl); rwa [Nat.zero_add] at this, ?_⟩
  conv => whnf
  refine ⟨.int .i64 (cmpI y[j].out (y[j - 1]'(by omega)).out), fun w' hw' => ?_, ?_⟩
  · have := (byOut_does (w := w') (a := y[j]) (b := y[j - 1]'(by omega))).q hw'
    exact this
  conv => whnf
  intro w2 ho2
  refine hN _ _ ?_
  conv => whnf
  rw [cmpI_neg]
  refine VIf.dec (fun hlt => ?_) (fun hlt => ?_)
  rotate_left
  · conv => whnf
    refine ⟨(i + 1, y), ⟨congrArg (Value.int .i64) ei, trivial⟩, leave w2 ho2 (fun hp => by omega), by show hi - (i + 1) < hi - i; omega⟩
  have hrow2 := hrow.only ho2 (by simp)
  have how2 := ho.f0 ho2
  conv => whnf
  have hlt : y[j].out < (y[j - 1]'(by omega)).out := hlt
  have g1 : y.getD (j - 1) nm0 = y[j - 1]'(by omega) := by simp [List.getD_eq_getElem?_getD, List.getElem?_eq_getElem (show j - 1 < y.length by omega)]
  have g2 : y.getD j nm0 = y[j] := by simp [List.getD_eq_getElem?_getD, List.getElem?_eq_getElem hj]
  refine VDraw.abs fun N2 hN2 => ?_
  refine VDraw.ahead 15 (fun _ => True) (fun w' => Row w' 48 20 [g] (some ⟨g, 0, none⟩) n c (y.flatMap nmC)) [0, 1, 2, 3, 4, 5, 6, 7, 8, 9, 10, 11, 12, 13, 14, 15, 16, 17] (by kernel_rfl) (by kernel_rfl) trivial hrow2.drew ?_
  conv => whnf
  rw [ej]
  refine ⟨_, _, rfl, j - 1, (j - 1) * 20, rfl, by omega, (Nat.zero_add _).symm, ?_⟩
  conv => whnf
  refine ⟨.agg ⟨nmC (y[j - 1]'(by omega))⟩, fun w' hw' => by have := (Row.sl hw'.2).elem (P := Tryz.prog) (t := 48) nmC_len (show j - 1 < y.length by omega) (by kernel_rfl) (by kernel_rfl); rwa [Nat.zero_add] at this, ?_⟩
  conv => whnf
  refine ⟨_, _, rfl, j, j * 20, rfl, by omega, (Nat.zero_add _).symm, ?_⟩
  conv => whnf
  refine ⟨.agg ⟨nmC y[j]⟩, fun w' hw' => by have := (Row.sl hw'.2).elem (P := Tryz.prog) (t := 48) nmC_len hj (by kernel_rfl) (by kernel_rfl); rwa [Nat.zero_add] at this, ?_⟩
  conv => whnf
  refine ⟨_, _, rfl, j, j * 20, rfl, by omega, (Nat.zero_add _).symm, ?_⟩
  conv => whnf
  obtain ⟨w4, hst4, hrow4, ho4, hs4⟩ := hrow2.drew.storeAt (P := Tryz.prog) (t := 48) (x := y[j - 1]'(by omega)) nmC_len (by kernel_rfl) (one_nmC _) hyl (show j < n by omega)
  refine ⟨w4, hst4, ⟨trivial, fun h => Bool.noConfusion h⟩, ?_⟩
  conv => whnf
  refine ⟨_, _, rfl, j - 1, (j - 1) * 20, rfl, by omega, (Nat.zero_add _).symm, ?_⟩
  conv => whnf
  obtain ⟨w5, hst5, hrow5, ho5, hs5⟩ := hrow4.storeAt (P := Tryz.prog) (t := 48) (x := y[j]) nmC_len (by kernel_rfl) (one_nmC _) (by rw [List.length_set]; exact hyl) (show j - 1 < n by omega)
  refine ⟨w5, hst5, ⟨trivial, fun h => Bool.noConfusion h⟩, ?_⟩
  refine hN2 _ _ ?_
  have hsw : swapD y j = (y.set j (y[j - 1]'(by omega))).set (j - 1) y[j] := by unfold swapD; rw [g1, g2]
  conv => whnf
  refine ⟨(j - 1, swapD y j), ⟨congrArg (Value.int .i64) ej, trivial⟩, ⟨by show lo ≤ j - 1; omega, by show j - 1 ≤ i; omega, hmix.trans (Mix.swapD hj (by omega) (by omega)), hord.swap hj (by omega) hlt, ?_, (how2.drew.ff ho4).ff ho5⟩, by show j - 1 < j; omega⟩
  show Row w5 _ _ _ _ _ _ ((swapD y j).flatMap nmC)
  rw [hsw]
  exact hrow5
set_option maxRecDepth 100000 in
theorem insertion0_does {w : World} {A : Option Addr} {n c lo hi : Nat} {cmp : Value} (h : hi ≤ lo + 1) (hn : lo ≤ 4294967296) :
    Does Tryz.prog 197 [.slice A n c, .int .i64 lo, .int .i64 hi, cmp] w (fun v w' => v = .tuple ⟨[]⟩ ∧ w = w') := by
  have e1 : IntKind.i64.wrap ((lo : Int) + 1) = ((lo + 1 : Nat) : Int) := by rw [wi64]; omega
  refine Does.enter (fn := Tryz.f197) (by kernel_rfl) rfl (by kernel_rfl) (by kernel_rfl) ?_
  conv => whnf
  refine VLoop.inv (α := Unit) [(8, 10), (12, 53)] (fun s => [(8, .int .i64 (lo + 1 : Nat))]) (fun s w' => w = w') (fun s => 0) () (by kernel_rfl) ⟨congrArg (Value.int .i64) e1, trivial⟩ rfl ?_
  rintro _ wr j rfl
  conv => whnf
  refine VIf.dec (fun ht => ?_) (fun ht => ?_)
  · have ht : ((lo + 1 : Nat) : Int) < (hi : Int) := ht
    omega
  · conv => whnf
    exact ⟨rfl, rfl⟩
theorem str_some {s : ByteArray} (h : (List.range 256).all (fun k => (s[k]?).isSome) = true) {x : Nat} (hx : x ≤ 255) : ∃ c, s[x]? = some c := by
  have := List.all_eq_true.1 h x (List.mem_range.2 (by omega))
  exact Option.isSome_iff_exists.1 this
set_option maxRecDepth 100000 in
theorem len64_does {w : World} {x : Nat} (h : x ≤ 255) : Does Tryz.prog 206 [.int .u64 x] w (fun v w' => (∃ r, v = .int .i64 r) ∧ w = w') := by
  refine Does.enter (fn := Tryz.f206) (by kernel_rfl) rfl (by kernel_rfl) (by kernel_rfl) ?_
  conv => whnf
  refine VJoin.go (by kernel_rfl) ?_
  conv => whnf
  refine VIf.dec (fun h1 => ?_) (fun _ => ?_)
  · have h1 : (x : Int) ≥ 4294967296 := h1
    omega
  conv => whnf
  refine VJoin.go (by kernel_rfl) ?_
  conv => whnf
  refine VIf.dec (fun h1 => ?_) (fun _ => ?_)
  · have h1 : (x : Int) ≥ 65536 := h1
    omega
  conv => whnf
  refine VJoin.go (by kernel_rfl) ?_
  conv => whnf
  refine VIf.dec (fun h1 => ?_) (fun _ => ?_)
  · have h1 : (x : Int) ≥ 256 := h1
    omega
  conv => whnf
  obtain ⟨c, hc⟩ := str_some (s := _) (by kernel_rfl) h
  refine ⟨x, c, by rw [wr8]; omega, hc, ?_⟩
  conv => whnf
  exact ⟨⟨_, rfl⟩, rfl⟩
set_option maxRecDepth 100000 in
theorem len_does {w : World} {x : Nat} (h : x ≤ 255) : Does Tryz.prog 142 [.int .u64 x] w (fun v w' => (∃ r, v = .int .i64 r) ∧ w = w') := by
  refine Does.enter (fn := Tryz.f142) (by kernel_rfl) rfl (by kernel_rfl) (by kernel_rfl) ?_
  conv => whnf
  refine (len64_does h).mono ?_
  rintro v w1 ⟨⟨r, rfl⟩, rfl⟩
  conv => whnf
  exact ⟨⟨_, rfl⟩, rfl⟩
/-- The slice is sorted. -/
def SortPost (w w' : World) (F : List Nat) (A : Option Addr) (n c : Nat) (z : List Nm) : Prop := ∃ z', z'.Perm z ∧ Sorted z' 0 z'.length ∧ Row w' 48 20 F A n c (z'.flatMap nmC) ∧ Only F w w'
set_option maxRecDepth 100000 in
theorem pdq_small {w : World} {F : List Nat} {A : Option Addr} {n c : Nat} {z : List Nm} {r : Int} (h : Row w 48 20 F A n c (z.flatMap nmC)) (hn : n ≤ 12) :
    Does Tryz.prog 141 [.slice A n c, .int .i64 (0 : Nat), .int .i64 n, .int .i64 r, .func (.func 67) #[] #[]] w (fun v w' => v = .tuple ⟨[]⟩ ∧ SortPost w w' F A n c z) := by
  have hl : z.length = n := h.sl.num nmC_len (by decide)
  refine Does.enter (fn := Tryz.f141) (by kernel_rfl) rfl (by kernel_rfl) (by kernel_rfl) ?_
  conv => whnf
  refine VLoop.inv (α := Unit) [(1, 4), (10, 148)] (fun s => [(1, .int .i64 (0 : Nat)), (2, .int .i64 n), (3, .int .i64 r)]) (fun s w' => w = w') (fun s => 0) () (by kernel_rfl) ⟨rfl, rfl, rfl, trivial⟩ rfl ?_
  rintro _ wr j rfl
  have e : IntKind.i64.wrap ((n : Int) - (0 : Nat)) = (n : Int) := by rw [wi64]; omega
  conv => whnf
  rw [e]
  refine VIf.dec (fun ht => ?_) (fun ht => ?_)
  rotate_left
  · have ht : ¬ (n : Int) ≤ 12 := ht
    omega
  conv => whnf
  by_cases h0 : n ≤ 1
  · refine (insertion0_does (lo := 0) (hi := n) (by omega) (by omega)).mono ?_
    rintro v w1 ⟨rfl, rfl⟩
    conv => whnf
    exact ⟨rfl, z, .refl _, fun a b hb hab _ _ => by omega, h, Only.refl _ _⟩
  · obtain ⟨g, cur, rfl, rfl, -⟩ := h.blk (by have := h.le.1; omega)
    refine (insertion_does (lo := 0) (hi := n) h hl (by omega) (Nat.le_refl _) (by omega)).mono ?_
    rintro v w1 ⟨rfl, z', hmix, hsort, hrow, ho⟩
    conv => whnf
    exact ⟨rfl, z', hmix.perm, by rw [hmix.len, hl]; exact hsort, hrow, ho⟩
set_option maxRecDepth 100000 in
theorem sort_small {w : World} {F : List Nat} {A : Option Addr} {n c : Nat} {z : List Nm} (h : Row w 48 20 F A n c (z.flatMap nmC)) (hn : n ≤ 12) :
    Does Tryz.prog 66 [.slice A n c, .func (.func 67) #[] #[]] w (fun v w' => v = .tuple ⟨[]⟩ ∧ SortPost w w' F A n c z) := by
  have e : IntKind.u64.wrap (n : Int) = (n : Int) := by rw [wr64]; omega
  refine Does.enter (fn := Tryz.f66) (by kernel_rfl) rfl (by kernel_rfl) (by kernel_rfl) ?_
  conv => whnf
  rw [e]
  refine (len_does (x := n) (by omega)).mono ?_
  rintro v w1 ⟨⟨r, rfl⟩, rfl⟩
  conv => whnf
  refine (pdq_small h hn).mono ?_
  rintro v w1 ⟨rfl, hp⟩
  conv => whnf
  exact ⟨rfl, hp⟩
set_option maxRecDepth 100000 in
theorem maps_small {w : World} {T : Nat} {s : NatS} {F : List Nat} (h : St w T s F) (ok : okS s) (hn : s.maps.length ≤ 12) :
    Does Tryz.prog 18 [.pointer (some ⟨T, 0, none⟩)] w (fun v w' => ∃ z' A n c G, v = .slice A n c ∧ z'.Perm s.maps ∧ Sorted z' 0 z'.length ∧ Row w' 48 20 G A n c (z'.flatMap nmC) ∧ Only [] w w' ∧ ∀ k ∈ G, w.heap.size ≤ k) := by
  obtain ⟨A1, n1, c1, F1, A2, n2, c2, F2, A3, n3, c3, F3, hb, hr, rfl⟩ := h
  have okc := ok.cf
  have e1 : s.maps.length = n1 := hr.m.sl.num nmC_len (by decide)
  refine Does.enter (fn := Tryz.f18) (by kernel_rfl) rfl (by kernel_rfl) (by kernel_rfl) ?_
  conv => whnf
  refine ⟨_, Loads.one (by kernel_rfl) (hb.ntM okc), ?_⟩
  conv => whnf
  refine (cloneNm_does hr.m.sl (by omega)).mono ?_
  rintro v w2 ⟨A, n, c, G, rfl, hrow, ho2, hG⟩
  have e2 : s.maps.length = n := hrow.sl.num nmC_len (by decide)
  conv => whnf
  refine (sort_small hrow (by omega)).mono ?_
  rintro v w3 ⟨rfl, z', hp, hs, hrow3, ho3⟩
  conv => whnf
  exact ⟨z', A, n, c, G, rfl, hp, hs, hrow3, ho2.trans ho3 (fun k hk => .inr (hG k hk)), hG⟩
end Go.Proofs.YtofomopdaponbaaGreatDoor
