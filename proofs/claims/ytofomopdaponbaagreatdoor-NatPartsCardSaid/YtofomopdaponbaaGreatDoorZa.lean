/-
  Whole numbers as Go has them: what wraps, masks and shifts come to. No program in sight.
-/
import Derived.Test.YtofomopdaponbaaGreatDoorYVc
import Derived.WalkKit
import Derived.WalkSpells
import Derived.WalkLawsBesides
import Derived.Deep.Draws
import Derived.Deep.AppendLies
import Derived.Maps.AppendAt
import Derived.Lib.Hide
import Derived.ProofKit
import Derived.OpenShut
import Derived.ChangeOld
import Derived.SizedLaws
import Derived.Deep.Slices
import Derived.Deep.Fields
namespace Go.Proofs.YtofomopdaponbaaGreatDoor
set_option linter.unusedVariables false
set_option linter.unusedSimpArgs false

theorem wr8 (x : Int) : IntKind.u8.wrap x = x % 256 := by simp [IntKind.wrap, IntKind.signed, IntKind.bits]
theorem wr16 (x : Int) : IntKind.u16.wrap x = x % 65536 := by simp [IntKind.wrap, IntKind.signed, IntKind.bits]
theorem wr32 (x : Int) : IntKind.u32.wrap x = x % 4294967296 := by simp [IntKind.wrap, IntKind.signed, IntKind.bits]
theorem wr64 (x : Int) : IntKind.u64.wrap x = x % 18446744073709551616 := by simp [IntKind.wrap, IntKind.signed, IntKind.bits]
theorem wi64 (x : Int) : IntKind.i64.wrap x = (x + 9223372036854775808) % 18446744073709551616 - 9223372036854775808 := by
  simp only [IntKind.wrap, IntKind.signed, IntKind.bits, Bool.true_and]
  split
  · rename_i h
    simp at h
    omega
  · rename_i h
    simp at h
    omega
/-- A number that is one of its kind already. -/
def isK (k : IntKind) (x : Int) : Prop := k.min ≤ x ∧ x ≤ k.max
theorem wi_id {x : Int} (h : -9223372036854775808 ≤ x) (h' : x ≤ 9223372036854775807) : IntKind.i64.wrap x = x := by rw [wi64]; omega
theorem pw_lit (n : Nat) (k : IntKind) (h : n ≤ k.bits) : pw (n : Int) k = 2 ^ n := by
  simp [pw, Nat.min_eq_left h]
def maxN : IntKind → Nat
  | .i8 => 127
  | .i16 => 32767
  | .i32 => 2147483647
  | .i64 => 9223372036854775807
  | .u8 => 255
  | .u16 => 65535
  | .u32 => 4294967295
  | .u64 => 18446744073709551615
theorem wrap_nat (k : IntKind) (x : Nat) (h : x ≤ maxN k) : k.wrap (x : Int) = x := by
  cases k <;> simp only [maxN] at h <;> simp only [IntKind.wrap, IntKind.signed, IntKind.bits, Bool.false_and, Bool.true_and, Bool.false_eq_true, if_false, Nat.reduceSub, Int.reducePow]
  · split
    · rename_i hh; have := of_decide_eq_true hh; omega
    · omega
  · split
    · rename_i hh; have := of_decide_eq_true hh; omega
    · omega
  · split
    · rename_i hh; have := of_decide_eq_true hh; omega
    · omega
  · split
    · rename_i hh; have := of_decide_eq_true hh; omega
    · omega
  · omega
  · omega
  · omega
  · omega
theorem ofInt_nat (k : IntKind) (x : Nat) (h : x ≤ maxN k) : (BitVec.ofInt k.bits (x : Int)).toNat = x := by
  rw [BitVec.ofInt_natCast, BitVec.toNat_ofNat]
  cases k <;> simp only [maxN] at h <;> simp only [IntKind.bits] <;> exact Nat.mod_eq_of_lt (by omega)
theorem maxN_pow (k : IntKind) : ∃ m, maxN k + 1 = 2 ^ m := by
  cases k
  · exact ⟨7, rfl⟩
  · exact ⟨15, rfl⟩
  · exact ⟨31, rfl⟩
  · exact ⟨63, rfl⟩
  · exact ⟨8, rfl⟩
  · exact ⟨16, rfl⟩
  · exact ⟨32, rfl⟩
  · exact ⟨64, rfl⟩
theorem andI_nat (k : IntKind) (x y : Nat) (hx : x ≤ maxN k) (hy : y ≤ maxN k) : andI k (x : Int) (y : Int) = ((x &&& y : Nat) : Int) := by
  unfold andI
  rw [BitVec.toNat_and, ofInt_nat k x hx, ofInt_nat k y hy]
  exact wrap_nat k _ (Nat.le_trans Nat.and_le_left hx)
theorem orI_nat (k : IntKind) (x y : Nat) (hx : x ≤ maxN k) (hy : y ≤ maxN k) : orI k (x : Int) (y : Int) = ((x ||| y : Nat) : Int) := by
  unfold orI
  rw [BitVec.toNat_or, ofInt_nat k x hx, ofInt_nat k y hy]
  obtain ⟨m, hm⟩ := maxN_pow k
  have : x ||| y < 2 ^ m := Nat.or_lt_two_pow (by omega) (by omega)
  exact wrap_nat k _ (by omega)
theorem xorI_nat (k : IntKind) (x y : Nat) (hx : x ≤ maxN k) (hy : y ≤ maxN k) : xorI k (x : Int) (y : Int) = ((x ^^^ y : Nat) : Int) := by
  unfold xorI
  rw [BitVec.toNat_xor, ofInt_nat k x hx, ofInt_nat k y hy]
  obtain ⟨m, hm⟩ := maxN_pow k
  have : x ^^^ y < 2 ^ m := Nat.xor_lt_two_pow (by omega) (by omega)
  exact wrap_nat k _ (by omega)
theorem andI_mask (k : IntKind) (x : Int) (m : Nat) (h0 : 0 ≤ x) (h1 : x ≤ maxN k) (hm : 2 ^ m - 1 ≤ maxN k) : andI k x ((2 ^ m - 1 : Nat) : Int) = x % ((2 ^ m : Nat) : Int) := by
  obtain ⟨n, rfl⟩ := Int.eq_ofNat_of_zero_le h0
  rw [andI_nat k n _ (by omega) hm, Nat.and_two_pow_sub_one_eq_mod]
  rfl
theorem andI_bit (k : IntKind) (x : Int) (m : Nat) (h0 : 0 ≤ x) (h1 : x ≤ maxN k) (hm : 2 ^ m ≤ maxN k) : andI k x ((2 ^ m : Nat) : Int) = x / ((2 ^ m : Nat) : Int) % 2 * ((2 ^ m : Nat) : Int) := by
  obtain ⟨n, rfl⟩ := Int.eq_ofNat_of_zero_le h0
  have e : n &&& 2 ^ m = (n.testBit m).toNat * 2 ^ m := by
    apply Nat.eq_of_testBit_eq
    intro i
    rw [Nat.testBit_and, Nat.testBit_two_pow]
    by_cases hi : m = i
    · subst hi
      cases n.testBit m <;> simp [Nat.testBit_two_pow]
    · cases n.testBit m <;> simp [Nat.testBit_two_pow, hi]
  rw [andI_nat k n _ (by omega) hm, e]
  have : (n.testBit m).toNat = n / 2 ^ m % 2 := by
    rw [Nat.testBit_eq_decide_div_mod_eq]
    rcases Nat.mod_two_eq_zero_or_one (n / 2 ^ m) with h | h <;> simp [h]
  rw [this]
  rfl
theorem orI_add (k : IntKind) (x y : Int) (m : Nat) (h0 : 0 ≤ x) (hy0 : 0 ≤ y) (hy : y < ((2 ^ m : Nat) : Int)) (h1 : x * ((2 ^ m : Nat) : Int) + y ≤ maxN k) : orI k (x * ((2 ^ m : Nat) : Int)) y = x * ((2 ^ m : Nat) : Int) + y := by
  obtain ⟨a, rfl⟩ := Int.eq_ofNat_of_zero_le h0
  obtain ⟨b, rfl⟩ := Int.eq_ofNat_of_zero_le hy0
  have hlt : b < 2 ^ m := by omega
  have hle : a * 2 ^ m + b ≤ maxN k := by
    have : ((a * 2 ^ m + b : Nat) : Int) ≤ maxN k := by simpa using h1
    omega
  have e : (a : Int) * ((2 ^ m : Nat) : Int) = ((a * 2 ^ m : Nat) : Int) := by simp
  rw [e, orI_nat k _ _ (by omega) (by omega)]
  have := Nat.shiftLeft_add_eq_or_of_lt hlt a
  rw [Nat.shiftLeft_eq] at this
  rw [← this]
  simp
theorem and_u64_65535 {x : Int} (h0 : 0 ≤ x) (h1 : x ≤ 18446744073709551615) : andI .u64 x 65535 = x % 65536 := andI_mask .u64 x 16 h0 h1 (by decide)
theorem or_256 (k : IntKind) {x y : Int} (h0 : 0 ≤ x) (hy0 : 0 ≤ y) (hy : y < 256) (h1 : x * 256 + y ≤ maxN k) : orI k (x * 256) y = x * 256 + y := orI_add k x y 8 h0 hy0 hy h1
theorem not_u16 {x : Int} (h0 : 0 ≤ x) (h1 : x ≤ 65535) : xorI .u16 (if IntKind.u16.signed then -1 else IntKind.u16.max) x = 65535 - x := by
  obtain ⟨n, rfl⟩ := Int.eq_ofNat_of_zero_le h0
  have e : (if IntKind.u16.signed then -1 else IntKind.u16.max) = ((65535 : Nat) : Int) := by decide
  rw [e, xorI_nat .u16 _ _ (by decide) (by simp only [maxN]; omega)]
  have : 65535 ^^^ n = 65535 - n := by
    apply Nat.eq_of_testBit_eq
    intro i
    rw [Nat.testBit_xor, show 65535 - n = 2 ^ 16 - (n + 1) by omega, Nat.testBit_two_pow_sub_succ (by omega), show (65535 : Nat) = 2 ^ 16 - 1 by decide, Nat.testBit_two_pow_sub_one]
    by_cases hi : i < 16
    · simp [hi]
    · have : n.testBit i = false := Nat.testBit_lt_two_pow (Nat.lt_of_lt_of_le (show n < 2 ^ 16 by omega) (Nat.pow_le_pow_right (by decide) (by omega)))
      simp [hi, this]
  rw [this]
  omega
end Go.Proofs.YtofomopdaponbaaGreatDoor
/-
  Footprints: which blocks a call may have changed; a slice that reads as a list of cells, with the block that it lies in; append onto such a slice. No program in sight.
-/
namespace Go.Proofs.YtofomopdaponbaaGreatDoor
open Go.RowKit

theorem ret_int {k : IntKind} {a b : Int} (h : a = b) : Ending.returned (.int k a) = Ending.returned (.int k b) := by rw [h]
theorem ret_bool {a b : Bool} (h : a = b) : Ending.returned (.bool a) = Ending.returned (.bool b) := by rw [h]

/-- Behind a call only the blocks of F, and new ones, may differ. -/
structure Only (F : List Nat) (w w' : World) : Prop where
  os : w'.os = w.os
  tape : w'.tape = w.tape
  output : w'.output = w.output
  size : w.heap.size ≤ w'.heap.size
  block : ∀ k, k < w.heap.size → k ∉ F → w'.heap[k]? = w.heap[k]?

section
variable {F G : List Nat} {a b c w w' : World}
theorem Only.refl (F : List Nat) (w : World) : Only F w w := ⟨rfl, rfl, rfl, Nat.le_refl _, fun _ _ _ => rfl⟩
theorem Only.trans (h : Only F a b) (k : Only G b c) (hG : ∀ x ∈ G, x ∈ F ∨ a.heap.size ≤ x) : Only F a c :=
  ⟨k.os.trans h.os, k.tape.trans h.tape, k.output.trans h.output, Nat.le_trans h.size k.size, fun i hi hn =>
    (k.block i (Nat.lt_of_lt_of_le hi h.size) (fun hg => by
      rcases hG i hg with h1 | h1
      · exact hn h1
      · omega)).trans (h.block i hi hn)⟩
theorem Only.mono (h : Only F a b) (hG : ∀ x ∈ F, x ∈ G ∨ a.heap.size ≤ x) : Only G a b :=
  ⟨h.os, h.tape, h.output, h.size, fun i hi hn => h.block i hi (fun hf => by
    rcases hG i hf with h1 | h1
    · exact hn h1
    · omega)⟩
theorem Only.drew (h : Only F a w) : Only F a w.drew := ⟨h.os, h.tape, h.output, h.size, h.block⟩
theorem Only.drewN (h : Only F a w) (n : Nat) : Only F a (w.drewN n) := ⟨h.os, h.tape, h.output, h.size, h.block⟩
theorem Only.alloc (h : Only F a w) (o : Obj) : Only F a (w.alloc o) :=
  ⟨h.os, h.tape, h.output, Nat.le_trans h.size (by simp), fun i hi hne => (Below.heap_alloc w o i (Nat.lt_of_lt_of_le hi h.size)).trans (h.block i hi hne)⟩
theorem Only.setCell (h : Only F a w) {p : Addr} (hp : p.block ∈ F ∨ a.heap.size ≤ p.block) (u : Value) : Only F a (w.setCell p u) :=
  ⟨h.os, h.tape, h.output, by simpa [World.setCell] using h.size, fun i hi hne => (Below.heap_setCell w p u i (by
    rintro rfl
    rcases hp with hp | hp
    · exact hne hp
    · omega)).trans (h.block i hi hne)⟩
theorem Only.below (h : Only F a b) {B : Nat} (hB : B ≤ a.heap.size) (hF : ∀ x ∈ F, B ≤ x) : Below B a b :=
  ⟨h.os, h.tape, h.output, h.size, fun i hi => h.block i (by omega) (fun hf => by have := hF i hf; omega)⟩
theorem Only.of_below (h : Below a.heap.size a b) : Only F a b := ⟨h.os, h.tape, h.output, h.size, fun i hi _ => h.block i hi⟩
theorem Only.of_grown {row : Option Nat} (h : a.grownBy b row) (hr : ∀ k, row = some k → k ∈ F) : Only F a b :=
  ⟨h.os, h.tape, h.output, h.size, fun i hi hn => h.block i hi (fun e => hn (hr i e.symm))⟩
theorem Only.cell (h : Only F a b) {p : Addr} {v : Value} (hv : a.cell? p = some v) (hp : p.block ∉ F) : b.cell? p = some v :=
  (World.cell?_of_block (h.block p.block (World.block_lt_of_cell? a p hv) hp)).trans hv
end

/-- Block g is just the cells cs, of element type t, none frozen. -/
def Blk (w : World) (g : Nat) (t : TypeId) (cs : Array Value) : Prop := w.heap[g]? = some (.cells cs t (0, 0))

section
variable {w w' : World} {g : Nat} {t : TypeId} {cs : Array Value}
theorem Blk.lt (h : Blk w g t cs) : g < w.heap.size := by
  rcases Nat.lt_or_ge g w.heap.size with hlt | hge
  · exact hlt
  · unfold Blk at h; rw [Array.getElem?_eq_none hge] at h; cases h
theorem Blk.cell (h : Blk w g t cs) (i : Nat) : w.cell? ⟨g, i, none⟩ = cs[i]? := cell_of_row w g i cs t (0, 0) h
theorem Blk.frozen (h : Blk w g t cs) (i : Nat) : w.frozen? ⟨g, i, none⟩ = false := by
  unfold Blk at h
  simp [World.frozen?, h]
theorem Blk.new (w : World) (t : TypeId) (cs : Array Value) : Blk (w.alloc (.cells cs t)) w.heap.size t cs := heap_alloc_new w _
theorem Blk.drew (h : Blk w g t cs) : Blk w.drew g t cs := h
theorem Blk.drewN (h : Blk w g t cs) (n : Nat) : Blk (w.drewN n) g t cs := h
theorem Blk.alloc (h : Blk w g t cs) (o : Obj) : Blk (w.alloc o) g t cs := (Below.heap_alloc w o g h.lt).trans h
theorem Blk.set_ (h : Blk w g t cs) (i : Nat) (u : Value) : Blk (w.setCell ⟨g, i, none⟩ u) g t (cs.setIfInBounds i u) := by
  unfold Blk at h ⊢
  simp [World.setCell, Array.getElem?_modify, h]
theorem Blk.far (h : Blk w g t cs) {p : Addr} (hp : g ≠ p.block) (u : Value) : Blk (w.setCell p u) g t cs := (Below.heap_setCell w p u g hp).trans h
theorem Blk.only {F : List Nat} (h : Blk w g t cs) (ho : Only F w w') (hg : g ∉ F) : Blk w' g t cs := (ho.block g h.lt hg).trans h
theorem Blk.below {B : Nat} (h : Blk w g t cs) (hb : Below B w w') (hg : g < B) : Blk w' g t cs := (hb.block g hg).trans h
theorem Blk.ne_ {g' : Nat} {t' : TypeId} {cs' : Array Value} (h : Blk w g t cs) (h' : Blk w g' t' cs') (hne : t ≠ t') : g ≠ g' := by
  rintro rfl
  unfold Blk at h h'
  rw [h] at h'
  injection h' with h'
  injection h' with _ ht
  exact hne ht
end

/-- The slice value '.slice A n c' reads as the cells xs: it has no room at all (F = []), or it begins at the head of block g (F = [g]), which is known whole. -/
def Row (w : World) (e : TypeId) (size : Nat) (F : List Nat) (A : Option Addr) (n c : Nat) (xs : List Value) : Prop :=
  (F = [] ∧ n = 0 ∧ c = 0 ∧ xs = []) ∨
  ∃ g, F = [g] ∧ A = some ⟨g, 0, none⟩ ∧ w.ownsRow 0 e size (.slice (some ⟨g, 0, none⟩) n c) n xs

section
variable {w w' : World} {e : TypeId} {size : Nat} {F : List Nat} {A : Option Addr} {n c : Nat} {xs : List Value}
theorem Row.nil (w : World) (e : TypeId) (size : Nat) (A : Option Addr) : Row w e size [] A 0 0 [] := .inl ⟨rfl, rfl, rfl, rfl⟩
theorem Row.len (h : Row w e size F A n c xs) : xs.length = n * size := by
  rcases h with ⟨_, rfl, _, rfl⟩ | ⟨g, _, _, h⟩
  · simp
  · exact h.1
theorem Row.le (h : Row w e size F A n c xs) : n ≤ c ∧ c ≤ maxLen := by
  rcases h with ⟨_, rfl, rfl, rfl⟩ | ⟨g, _, _, _, h⟩
  · simp
  · rcases h with ⟨h, _⟩ | ⟨g', cap, cur, hv, _, _, h1, h2, _⟩
    · cases h
    · injection hv with _ _ hc; subst hc; exact ⟨h1, h2⟩
theorem Row.lt (h : Row w e size F A n c xs) : ∀ k ∈ F, k < w.heap.size := by
  rcases h with ⟨rfl, _⟩ | ⟨g, rfl, _, h⟩
  · simp
  · intro k hk
    have : k = g := by simpa using hk
    subst this
    exact (h.lt k rfl).2
theorem Row.only {G : List Nat} (h : Row w e size F A n c xs) (ho : Only G w w') (hd : ∀ k ∈ F, k ∉ G) : Row w' e size F A n c xs := by
  rcases h with h | ⟨g, rfl, hA, h⟩
  · exact .inl h
  · refine .inr ⟨g, rfl, hA, h.1, ?_⟩
    rcases h.2 with ⟨h, _⟩ | ⟨g', cap, cur, hv, hb, hh, rest⟩
    · cases h
    · injection hv with h1 _ h3
      injection h1 with h1
      injection h1 with h1
      subst h1
      refine .inr ⟨g, cap, cur, by rw [h3], hb, ?_, rest⟩
      exact (ho.block g (Array.getElem?_eq_some_iff.1 hh).1 (hd g (by simp))).trans hh
theorem Row.drew (h : Row w e size F A n c xs) : Row w.drew e size F A n c xs := h
theorem Row.drewN (h : Row w e size F A n c xs) (k : Nat) : Row (w.drewN k) e size F A n c xs := h
theorem Row.alloc (h : Row w e size F A n c xs) (o : Obj) : Row (w.alloc o) e size F A n c xs :=
  h.only ((Only.refl [] w).alloc o) (by simp)
theorem Row.setFar (h : Row w e size F A n c xs) {p : Addr} (hp : p.block ∉ F) (u : Value) : Row (w.setCell p u) e size F A n c xs :=
  h.only (G := [p.block]) ((Only.refl _ w).setCell (.inl (by simp)) u) (fun k hk => by
    intro hm
    have : k = p.block := by simpa using hm
    subst this
    exact hp hk)
theorem Row.blk (h : Row w e size F A n c xs) (hn : 0 < c) : ∃ g cur, F = [g] ∧ A = some ⟨g, 0, none⟩ ∧ Blk w g e cur ∧ cur.size = c * size ∧ cur.toList.take (n * size) = xs := by
  rcases h with ⟨_, _, hc, _⟩ | ⟨g, hF, hA, h⟩
  · omega
  · rcases h.2 with ⟨h, _⟩ | ⟨g', cap, cur, hv, _, hh, _, _, hs, ht⟩
    · cases h
    · injection hv with h1 _ h3
      injection h1 with h1
      injection h1 with h1
      subst h1
      subst h3
      exact ⟨g, cur, hF, hA, hh, hs, ht⟩
/-- A block that is known whole is none of a row's, where the element types differ. -/
theorem Row.ne_blk {q : Nat} {t : TypeId} {cs : Array Value} (h : Row w e size F A n c xs) (hq : Blk w q t cs) (hne : e ≠ t) : q ∉ F := by
  rcases h with ⟨rfl, _⟩ | ⟨g, rfl, hA, h⟩
  · simp
  · rcases h.2 with ⟨h, _⟩ | ⟨g', cap, cur, hv, _, hh, _⟩
    · cases h
    · injection hv with h1
      injection h1 with h1
      injection h1 with h1
      subst h1
      intro hm
      have : q = g := by simpa using hm
      subst this
      exact Blk.ne_ (t := e) hh hq hne rfl
/-- The cells of a row, read. -/
theorem Row.cellAt (h : Row w e size F A n c xs) {j : Nat} {u : Value} (hu : xs[j]? = some u) : ∃ g, A = some ⟨g, 0, none⟩ ∧ F = [g] ∧ w.cell? ⟨g, j, none⟩ = some u := by
  rcases h with ⟨_, _, _, rfl⟩ | ⟨g, hF, hA, h⟩
  · simp at hu
  · refine ⟨g, hA, hF, ?_⟩
    have := h.cells (g := g) rfl j u hu
    rwa [Addr.add_lit, Nat.zero_add] at this
end

section
variable {P : Program} (w : World)
theorem run_append_row (t ty e : TypeId) (i : TypeInfo) (z : Value) (size bytes : Nat) (ht : P.underlying t = some (.slice e)) (hi : P.info? e = some i) (hz : i.zero = some z)
    (hsize : i.size = size) (hby : i.bytes = bytes) (hzs : z.cells.size = size) (hsz : 0 < size)
    (F : List Nat) (A : Option Addr) (n c : Nat) (xs : List Value) (hr : Row w e size F A n c xs)
    (ad : Addr) (m cc : Nat) (news : List Value) (hl : news.length = m * size) (hnews : ∀ j u, news[j]? = some u → w.cell? (ad.add j) = some u) (h1 : ∀ u ∈ news, u.oneCell' = true)
    (hm : 0 < m) (h63 : n + m ≤ maxLen) (hbytes : (n + m) * bytes ≤ 140737488355328) :
    ∃ g cap w', (Builtin.append_ #[t, t] ty #[.slice A n c, .slice (some ad) m cc]).run P w = .ok (.slice (some ⟨g, 0, none⟩) (n + m) cap) w' ∧
      Row w' e size [g] (some ⟨g, 0, none⟩) (n + m) cap (xs ++ news) ∧ Only F w w' ∧ (g ∈ F ∨ w.heap.size ≤ g) := by
  rcases hr with ⟨rfl, rfl, rfl, rfl⟩ | ⟨g, rfl, rfl, hown⟩
  · cases A with
    | none =>
      obtain ⟨g, cap, w', hr, h2, h3, h4, _⟩ := run_append_lies (P := P) w t ty 0 e i z size bytes ht hi hz hsize hby hzs hsz (.slice none 0 0) 0 [] (World.ownsRow_nil w 0 e size) ad m cc news hl hnews h1 hm h63 hbytes (Nat.zero_le _) _ rfl
      refine ⟨g, cap, w', hr, .inr ⟨g, rfl, rfl, h2⟩, Only.of_grown h3 (fun k hk => by cases hk), ?_⟩
      rcases h4 with h4 | h4
      · cases h4
      · exact .inr (by omega)
    | some b =>
      obtain ⟨v', w', hr, h2, h3⟩ := run_append_arg_grows (P := P) w t ty e i z size bytes ht hi hz hsize hby hzs hsz b 0 0 [] (by simp) (fun j u hj => by simp at hj) ad m cc news hl hnews (by omega) h63 hbytes
      obtain ⟨g, cap, rfl, hb, _⟩ := h2.form (by omega)
      obtain ⟨hl2, hr2⟩ := h2
      have hh : w'.ownsRow 0 e size (.slice (some ⟨g, 0, none⟩) (0 + m) cap) (0 + m) ([] ++ news) := by
        refine ⟨hl2, ?_⟩
        rcases hr2 with ⟨h, _⟩ | ⟨g', cap', cur, hv, _, rest⟩
        · cases h
        · exact .inr ⟨g', cap', cur, hv, Nat.zero_le _, rest⟩
      exact ⟨g, cap, w', by simpa using hr, .inr ⟨g, rfl, rfl, hh⟩, Only.of_grown h3 (fun k hk => by cases hk), .inr hb⟩
  · obtain ⟨g', cap, w', hr, h2, h3, h4, _⟩ := run_append_lies (P := P) w t ty 0 e i z size bytes ht hi hz hsize hby hzs hsz _ n xs hown ad m cc news hl hnews h1 hm h63 hbytes (Nat.zero_le _) _ rfl
    refine ⟨g', cap, w', hr, .inr ⟨g', rfl, rfl, h2⟩, Only.of_grown h3 (fun k hk => ?_), ?_⟩
    · have : g = k := by simpa [Value.ownBlock] using hk
      simp [this]
    · rcases h4 with h4 | h4
      · have : g = g' := by simpa [Value.ownBlock] using h4
        simp [this]
      · exact .inr (by omega)
end
section
variable {P : Program} (w : World)
theorem wp_append_row {o : Oper} {a : Act} {K : Act → World → Prop} {Q : Exit → Act → World → Prop} (s x : Operand) (t : TypeId)
    (ho : o.op = .call { callee := .builtin .append, args := #[s, x], argTypes := #[t, t] })
    (e : TypeId) (i : TypeInfo) (z : Value) (size bytes : Nat) (ht : P.underlying t = some (.slice e)) (hi : P.info? e = some i) (hz : i.zero = some z)
    (hsize : i.size = size) (hby : i.bytes = bytes) (hzs : z.cells.size = size) (hsz : 0 < size)
    (F : List Nat) (A : Option Addr) (n c : Nat) (xs : List Value) (hs : a.eval s = .slice A n c) (hr : Row w e size F A n c xs)
    (ad : Addr) (m cc : Nat) (news : List Value) (hx : a.eval x = .slice (some ad) m cc) (hl : news.length = m * size) (hnews : ∀ j u, news[j]? = some u → w.cell? (ad.add j) = some u) (h1 : ∀ u ∈ news, u.oneCell' = true)
    (hm : 0 < m) (h63 : n + m ≤ maxLen) (hbytes : (n + m) * bytes ≤ 140737488355328)
    (h : ∀ g cap w', Row w' e size [g] (some ⟨g, 0, none⟩) (n + m) cap (xs ++ news) → Only F w w' → (g ∈ F ∨ w.heap.size ≤ g) → K (a.put o.dst (.slice (some ⟨g, 0, none⟩) (n + m) cap)) w') : o.wp P a w K Q := by
  obtain ⟨g, cap, w', hrun, h2, h3, h4⟩ := run_append_row (P := P) w t o.type e i z size bytes ht hi hz hsize hby hzs hsz F A n c xs hr ad m cc news hl hnews h1 hm h63 hbytes
  unfold Oper.wp execOp
  simp only [ho, resolve, invoke, builtin, Sem.run_bind, Sem.run_pure, Result.andThen_ok, List.map_toArray, List.map_cons, List.map_nil, hs, hx, hrun]
  exact h g cap w' h2 h3 h4
theorem wpList_append_row {ops : Array Oper} {rest : List Oper} {o : Oper} {a : Act} {Q : Exit → Act → World → Prop} (hgd : o.guard = none) (s x : Operand) (t : TypeId)
    (ho : o.op = .call { callee := .builtin .append, args := #[s, x], argTypes := #[t, t] })
    (e : TypeId) (i : TypeInfo) (z : Value) (size bytes : Nat) (ht : P.underlying t = some (.slice e)) (hi : P.info? e = some i) (hz : i.zero = some z)
    (hsize : i.size = size) (hby : i.bytes = bytes) (hzs : z.cells.size = size) (hsz : 0 < size)
    (F : List Nat) (A : Option Addr) (n c : Nat) (xs : List Value) (hs : a.eval s = .slice A n c) (hr : Row w e size F A n c xs)
    (ad : Addr) (m cc : Nat) (news : List Value) (hx : a.eval x = .slice (some ad) m cc) (hl : news.length = m * size) (hnews : ∀ j u, news[j]? = some u → w.cell? (ad.add j) = some u) (h1 : ∀ u ∈ news, u.oneCell' = true)
    (hm : 0 < m) (h63 : n + m ≤ maxLen) (hbytes : (n + m) * bytes ≤ 140737488355328)
    (h : ∀ g cap w', Row w' e size [g] (some ⟨g, 0, none⟩) (n + m) cap (xs ++ news) → Only F w w' → (g ∈ F ∨ w.heap.size ≤ g) → wpList P ops Q rest (a.put o.dst (.slice (some ⟨g, 0, none⟩) (n + m) cap)) w') : wpList P ops Q (o :: rest) a w :=
  wpList_plain hgd fun _ hK => wp_append_row w s x t ho e i z size bytes ht hi hz hsize hby hzs hsz F A n c xs hs hr ad m cc news hx hl hnews h1 hm h63 hbytes fun g cap w' h2 h3 h4 => hK _ _ (h g cap w' h2 h3 h4)
theorem step_append_row {ops : Array Oper} {o : Oper} {a : Act} {K : Act → World → Prop} {Q : Exit → Act → World → Prop} {E : Prop} (hgd : o.guard = none) (s x : Operand) (t : TypeId)
    (ho : o.op = .call { callee := .builtin .append, args := #[s, x], argTypes := #[t, t] })
    (e : TypeId) (i : TypeInfo) (z : Value) (size bytes : Nat) (ht : P.underlying t = some (.slice e)) (hi : P.info? e = some i) (hz : i.zero = some z)
    (hsize : i.size = size) (hby : i.bytes = bytes) (hzs : z.cells.size = size) (hsz : 0 < size)
    (F : List Nat) (A : Option Addr) (n c : Nat) (xs : List Value) (hs : a.eval s = .slice A n c) (hr : Row w e size F A n c xs)
    (ad : Addr) (m cc : Nat) (news : List Value) (hx : a.eval x = .slice (some ad) m cc) (hl : news.length = m * size) (hnews : ∀ j u, news[j]? = some u → w.cell? (ad.add j) = some u) (h1 : ∀ u ∈ news, u.oneCell' = true)
    (hm : 0 < m) (h63 : n + m ≤ maxLen) (hbytes : (n + m) * bytes ≤ 140737488355328)
    (h : ∀ g cap w', Row w' e size [g] (some ⟨g, 0, none⟩) (n + m) cap (xs ++ news) → Only F w w' → (g ∈ F ∨ w.heap.size ≤ g) → K (a.put o.dst (.slice (some ⟨g, 0, none⟩) (n + m) cap)) w') :
    if Region.wanted o (yielded ops a.tmps) = true then Oper.wp P o a w K Q else E := by
  have hw : Region.wanted o (yielded ops a.tmps) = true := by simp [Region.wanted, hgd]
  rw [if_pos hw]
  exact wp_append_row w s x t ho e i z size bytes ht hi hz hsize hby hzs hsz F A n c xs hs hr ad m cc news hx hl hnews h1 hm h63 hbytes h
end

/-- The cells of a block that is known whole, as what append asks of its source. -/
theorem news_of_new (w : World) (t : TypeId) (l : List Value) : ∀ j u, l[j]? = some u → (w.alloc (.cells l.toArray t)).cell? ((⟨w.heap.size, 0, none⟩ : Addr).add j) = some u := by
  intro j u hu
  rw [Addr.add_lit, Nat.zero_add, (Blk.new w t l.toArray).cell j]
  simpa using hu

section
variable {P : Program}
theorem run_eql_func_nil {t : TypeId} {ps rs : Array TypeId} {vd : Bool} (ht : P.underlying t = some (.func ps rs vd)) (fn : Fn) (fi ca : Array Value) (w : World) :
    (binOp .eql t (.func fn fi ca) .nilFunc).run P w = .ok (.bool false) w := by
  have h : ∀ d : Nat, (Op.equalIn (d + 1) t (.func fn fi ca) .nilFunc).run P w = .ok false w := fun d => by
    simp [Op.equalIn, run_underlying ht]
  simp only [binOp]
  simp [Op.equal, Op.maxDepth, h 9999]
theorem run_eql_nilFunc {t : TypeId} {ps rs : Array TypeId} {vd : Bool} (ht : P.underlying t = some (.func ps rs vd)) (w : World) :
    (binOp .eql t .nilFunc .nilFunc).run P w = .ok (.bool true) w := by
  have h : ∀ d : Nat, (Op.equalIn (d + 1) t .nilFunc .nilFunc).run P w = .ok true w := fun d => by
    simp [Op.equalIn, run_underlying ht]
  simp only [binOp]
  simp [Op.equal, Op.maxDepth, h 9999]
end
end Go.Proofs.YtofomopdaponbaaGreatDoor
/-
  A slice among the arguments, whatever its elements: what a walk is told of it. No program in sight.
-/
namespace Go.Proofs.YtofomopdaponbaaGreatDoor
open Go.ChangeShapes Go.WideShapes Go.ChangeAt Go.RowKit Go.Deep
set_option linter.unusedVariables false
set_option linter.unusedSimpArgs false

/-- The slice value '.slice A n _' that came in holds the cells xs, 'size' cells an element. -/
def Arg (w : World) (size : Nat) (A : Option Addr) (n : Nat) (xs : List Value) : Prop :=
  xs.length = n * size ∧ (0 < n → ∃ b off, A = some ⟨b, off, none⟩ ∧ b < w.heap.size ∧ ∀ j u, xs[j]? = some u → w.cell? ⟨b, off + j, none⟩ = some u)

theorem Arg.only {w w' : World} {size n : Nat} {A : Option Addr} {xs : List Value} {F : List Nat} (h : Arg w size A n xs) (ho : Only F w w') {B : Nat} (hw : ∀ b off, A = some ⟨b, off, none⟩ → b < B) (hF : ∀ k ∈ F, B ≤ k) : Arg w' size A n xs := by
  refine ⟨h.1, fun hn => ?_⟩
  obtain ⟨b, off, hA, hb, hc⟩ := h.2 hn
  have hbB := hw b off hA
  refine ⟨b, off, hA, Nat.lt_of_lt_of_le hb ho.size, fun j u hu => ho.cell (hc j u hu) (fun hm => ?_)⟩
  have := hF b hm
  omega
theorem Arg.below {w w' : World} {size n : Nat} {A : Option Addr} {xs : List Value} (h : Arg w size A n xs) (hb : Below w.heap.size w w') : Arg w' size A n xs := by
  refine ⟨h.1, fun hn => ?_⟩
  obtain ⟨b, off, hA, hlt, hc⟩ := h.2 hn
  exact ⟨b, off, hA, Nat.lt_of_lt_of_le hlt hb.size, fun j u hu => (hb.cell (p := ⟨b, off + j, none⟩) hlt).trans (hc j u hu)⟩

theorem gather {α : Type} (enc : α → List Value) (size : Nat) (Q : α → Prop) : ∀ (n : Nat) (xs : List Value), xs.length = n * size →
    (∀ i, i < n → ∃ o, (xs.drop (i * size)).take size = enc o ∧ Q o) → ∃ z : List α, z.length = n ∧ xs = z.flatMap enc ∧ ∀ o ∈ z, Q o := by
  intro n
  induction n with
  | zero => intro xs hl _; exact ⟨[], rfl, List.eq_nil_of_length_eq_zero (by simpa using hl), by simp⟩
  | succ n ih =>
    intro xs hl h
    obtain ⟨o, ho, hq⟩ := h 0 (by omega)
    obtain ⟨z, hz, hxs, hall⟩ := ih (xs.drop size) (by rw [List.length_drop, hl, Nat.add_mul]; omega) (fun i hi => by
      obtain ⟨o, ho, hq⟩ := h (i + 1) (by omega)
      refine ⟨o, ?_, hq⟩
      rw [List.drop_drop, ← ho, show size + i * size = (i + 1) * size by rw [Nat.add_mul]; omega])
    refine ⟨o :: z, by simp [hz], ?_, ?_⟩
    · rw [List.flatMap_cons, ← hxs, ← ho]
      simp
    · intro p hp
      rcases List.mem_cons.1 hp with rfl | hp
      · exact hq
      · exact hall p hp

section
variable {H : Type} {enc : TypeId × Value → H} {P : Program} {w : World} {base : Nat} {spare : Nat → Bool} {held : Bool}
theorem open_arg {t e : TypeId} {fuel size n c : Nat} {A : Option Addr} {x : DataW H × List MemPlace} (ht : P.underlying t = some (.slice e)) (hC : P.cellsOf e = size) (hs : 0 < size)
    (h : DataW.trod enc P w base spare held fuel t [.slice A n c] = some x) :
    n ≤ c ∧ c ≤ maxLen ∧ (∃ xs, Arg w size A n xs ∧ ∀ i, i < n → ∃ m y, DataW.trod enc P w base spare held m e ((xs.drop (i * size)).take size) = some y) ∧
    ((x.1 = .nil ∧ c = 0) ∨ ∃ elems spr, x.1 = .slice elems spr ∧ elems.length = n ∧ ((∀ b, spare b = true) → elems.length + spr.length = c)) := by
  rcases open_slice ht h with ⟨hcs, rfl⟩ | ⟨a, len, cap, m, k, D, Pl, hcs, _, hl, hm, hmm, rfl, hi⟩
  · simp only [List.cons.injEq, Value.slice.injEq, and_true] at hcs
    obtain ⟨rfl, rfl, rfl⟩ := hcs
    exact ⟨Nat.le_refl _, Nat.zero_le _, ⟨[], ⟨by simp, fun h => absurd h (by omega)⟩, fun i hi => absurd hi (by omega)⟩, .inl ⟨rfl, rfl⟩⟩
  · simp only [List.cons.injEq, Value.slice.injEq, and_true] at hcs
    obtain ⟨rfl, rfl, rfl⟩ := hcs
    subst hC
    have hnm : n ≤ m := by rw [hmm]; split <;> omega
    have hcell : ∀ j, j < n * P.cellsOf e → ∃ u, w.cell? (a.add j) = some u := by
      intro j hj
      have hi1 : j / P.cellsOf e < n := Nat.div_lt_of_lt_mul (by rw [Nat.mul_comm]; exact hj)
      obtain ⟨cs', hc, _⟩ := hi (j / P.cellsOf e) (by omega)
      obtain ⟨_, hcl, hat⟩ := World.cells?_some hc
      have hmod := Nat.mod_lt j hs
      have h1 := hat (j % P.cellsOf e) hmod
      rw [Go.Deep.add_add, Nat.mul_comm, Nat.div_add_mod] at h1
      exact ⟨cs'[j % P.cellsOf e]'(by omega), by rw [h1, List.getElem?_eq_getElem (by omega)]⟩
    refine ⟨hl, hm, ⟨(List.range (n * P.cellsOf e)).map fun j => (w.cell? (a.add j)).getD undef, ⟨by simp, fun hn => ?_⟩, fun i hin => ?_⟩, .inr ⟨_, _, rfl, by simp, fun hsp => ?_⟩⟩
    · have h00 : 0 < n * P.cellsOf e := Nat.mul_pos hn hs
      obtain ⟨u0, h0⟩ := hcell 0 h00
      obtain ⟨b, off, spot⟩ := a
      have hspot : spot = none := by
        cases spot with
        | none => rfl
        | some s =>
          exfalso
          simp only [Addr.add, World.cell?] at h0
          split at h0 <;> simp at h0
      subst hspot
      refine ⟨b, off, rfl, ?_, fun j u hu => ?_⟩
      · have := World.block_lt_of_cell? _ _ h0
        simpa [Addr.add] using this
      · have hj : j < n * P.cellsOf e := by
          have := (List.getElem?_eq_some_iff.1 hu).1
          simpa using this
        obtain ⟨v, hv⟩ := hcell j hj
        rw [List.getElem?_map, List.getElem?_range hj] at hu
        simp only [Option.map_some, hv, Option.getD_some, Option.some.injEq] at hu
        rw [Addr.add_lit] at hv
        rw [hv, hu]
    · obtain ⟨cs', hc, hx⟩ := hi i (by omega)
      obtain ⟨_, hcl, hat⟩ := World.cells?_some hc
      refine ⟨k, (D i, Pl i), ?_⟩
      · rw [← hx]
        congr 1
        have hle : (i + 1) * P.cellsOf e ≤ n * P.cellsOf e := Nat.mul_le_mul_right _ (by omega)
        rw [Nat.add_mul] at hle
        apply List.ext_getElem?
        intro j
        by_cases hj : j < P.cellsOf e
        · rw [List.getElem?_take_of_lt hj, List.getElem?_drop, List.getElem?_map, List.getElem?_range (by omega)]
          have h1 := hat j hj
          rw [Go.Deep.add_add] at h1
          simp only [Option.map_some]
          rw [h1, List.getElem?_eq_getElem (by omega)]
          rfl
        · rw [List.getElem?_eq_none (by simp; omega), List.getElem?_eq_none (by omega)]
    · have := hsp a.block
      rw [this] at hmm
      simp at hmm
      simp
      omega

/-- The fields of a struct whose fields have one cell each. -/
theorem open_fields {t : TypeId} {fs : Array Field} {fuel : Nat} {cs : List Value} {x : DataW H × List MemPlace} (ht : P.underlying t = some (.struct fs)) (hone : oneCellFields P fs = true) (hC : P.cellsOf t = fs.size)
    (h : DataW.trod enc P w base spare held fuel t cs = some x) :
    cs.length = fs.size ∧ ∀ (i : Nat) (f : Field), fs[i]? = some f → ∃ v m y, cs[i]? = some v ∧ DataW.trod enc P w base spare held m f.type [v] = some y := by
  obtain ⟨ys, n', _, _, hlen, hyl, hf⟩ := DataW.trod_struct ht h
  refine ⟨hlen.trans hC, fun i f hi => ?_⟩
  obtain ⟨ho, hk⟩ := hone_of hone i f hi
  have hil : i < fs.size := (Array.getElem?_eq_some_iff.1 hi).1
  have h1 := hf i f hi
  have hil2 : i < cs.length := by rw [hlen, hC]; exact hil
  rw [ho, hk, List.drop_eq_getElem_cons hil2, List.getElem?_eq_getElem (by omega), List.take_succ_cons, List.take_zero] at h1
  exact ⟨cs[i], n', ys[i], List.getElem?_eq_getElem hil2, h1⟩
end
end Go.Proofs.YtofomopdaponbaaGreatDoor
/-
  Slices that are read: their cells, by lists; bytes. No program in sight.
-/
namespace Go.Proofs.YtofomopdaponbaaGreatDoor
set_option linter.unusedVariables false
set_option linter.unusedSimpArgs false

def u8 (c : UInt8) : Value := .int .u8 (c.toNat : Int)
theorem u8_lt (c : UInt8) : (c.toNat : Int) < 256 := by have := c.toNat_lt; omega
theorem u8_le (c : UInt8) : (c.toNat : Int) ≤ 255 := by have := c.toNat_lt; omega

/-- The slice value '.slice A n _' reads as the cells xs, 'size' cells an element; it lies in one of the blocks G. -/
def Sl (w : World) (size : Nat) (G : List Nat) (A : Option Addr) (n : Nat) (xs : List Value) : Prop :=
  xs.length = n * size ∧ (0 < n → ∃ b off, A = some ⟨b, off, none⟩ ∧ b ∈ G ∧ b < w.heap.size ∧ ∀ j u, xs[j]? = some u → w.cell? ⟨b, off + j, none⟩ = some u)
section
variable {w w' : World} {size : Nat} {G F : List Nat} {A : Option Addr} {n : Nat} {xs : List Value}
theorem Sl.only (h : Sl w size G A n xs) (ho : Only F w w') (hd : ∀ k ∈ G, k ∉ F) : Sl w' size G A n xs := by
  refine ⟨h.1, fun hn => ?_⟩
  obtain ⟨b, off, hA, hG, hb, hc⟩ := h.2 hn
  exact ⟨b, off, hA, hG, Nat.lt_of_lt_of_le hb ho.size, fun j u hu => ho.cell (hc j u hu) (hd b hG)⟩
theorem Sl.o (h : Sl w size G A n xs) (ho : Only [] w w') : Sl w' size G A n xs := h.only ho (fun _ _ => by simp)
theorem Sl.mono {G' : List Nat} (h : Sl w size G A n xs) (hs : ∀ k ∈ G, k ∈ G') : Sl w size G' A n xs := by
  refine ⟨h.1, fun hn => ?_⟩
  obtain ⟨b, off, hA, hG, hb, hc⟩ := h.2 hn
  exact ⟨b, off, hA, hs b hG, hb, hc⟩
theorem Sl.nil (w : World) (size : Nat) (G : List Nat) (A : Option Addr) : Sl w size G A 0 [] := ⟨by simp, fun h => absurd h (Nat.lt_irrefl 0)⟩
theorem Arg.sl (h : Arg w size A n xs) : ∃ G, Sl w size G A n xs := by
  rcases Nat.eq_zero_or_pos n with rfl | hn
  · exact ⟨[], h.1, fun h => absurd h (Nat.lt_irrefl 0)⟩
  · obtain ⟨b, off, hA, hb, hc⟩ := h.2 hn
    exact ⟨[b], h.1, fun _ => ⟨b, off, hA, by simp, hb, hc⟩⟩
theorem Sl.cut {l h m : Nat} (hs : Sl w size G A n xs) (h1 : l ≤ h) (h2 : h ≤ m) (h3 : h ≤ n) {A' : Option Addr} (hA : A' = if m = l then A else A.map (·.add (l * size))) :
    Sl w size G A' (h - l) ((xs.drop (l * size)).take ((h - l) * size)) := by
  have hlen := hs.1
  refine ⟨?_, fun hn => ?_⟩
  · rw [List.length_take, List.length_drop, hlen]
    have : (h - l) * size ≤ n * size - l * size := by
      rw [← Nat.sub_mul]
      exact Nat.mul_le_mul_right _ (by omega)
    omega
  · obtain ⟨b, off, rfl, hG, hb, hc⟩ := hs.2 (by omega)
    rw [if_neg (by omega)] at hA
    refine ⟨b, off + l * size, ?_, hG, hb, fun j u hu => ?_⟩
    · rw [hA]
      simp only [Option.map_some, add_plain]
    · rw [Nat.add_assoc]
      refine hc (l * size + j) u ?_
      rw [List.getElem?_take] at hu
      split at hu
      · rwa [List.getElem?_drop] at hu
      · cases hu
theorem Row.sl {e : TypeId} {c : Nat} (h : Row w e size G A n c xs) : Sl w size G A n xs := by
  refine ⟨h.len, fun hn => ?_⟩
  have hle := h.le
  obtain ⟨g, cur, hF, hA, hB, hsz, htk⟩ := h.blk (by omega)
  subst hF
  refine ⟨g, 0, hA, by simp, hB.lt, fun j u hu => ?_⟩
  rw [Nat.zero_add, hB.cell]
  rw [← htk, List.getElem?_take] at hu
  split at hu
  · rwa [Array.getElem?_toList] at hu
  · cases hu
end

/-- A slice of bytes. -/
def Bs (w : World) (G : List Nat) (A : Option Addr) (n : Nat) (l : List UInt8) : Prop := Sl w 1 G A n (l.map u8)
section
variable {w w' : World} {G F : List Nat} {A : Option Addr} {n : Nat} {l : List UInt8}
theorem Bs.len (h : Bs w G A n l) : l.length = n := by
  have := h.1
  simpa using this
theorem Bs.only (h : Bs w G A n l) (ho : Only F w w') (hd : ∀ k ∈ G, k ∉ F) : Bs w' G A n l := Sl.only h ho hd
theorem Bs.o (h : Bs w G A n l) (ho : Only [] w w') : Bs w' G A n l := Sl.o h ho
theorem Bs.mono {G' : List Nat} (h : Bs w G A n l) (hs : ∀ k ∈ G, k ∈ G') : Bs w G' A n l := Sl.mono h hs
theorem Bs.ex (h : Bs w G A n l) (hn : 0 < n) : ∃ b off, A = some ⟨b, off, none⟩ ∧ b ∈ G ∧ ∀ (k : Nat) (hk : k < l.length), w.cell? ⟨b, off + k, none⟩ = some (u8 (l[k])) := by
  obtain ⟨b, off, hA, hG, hb, hc⟩ := h.2 hn
  exact ⟨b, off, hA, hG, fun k hk => hc k _ (by simp [hk])⟩
theorem Bs.cut {lo hi m : Nat} (hs : Bs w G A n l) (h1 : lo ≤ hi) (h2 : hi ≤ m) (h3 : hi ≤ n) {A' : Option Addr} (hA : A' = if m = lo then A else A.map (·.add (lo * 1))) : Bs w G A' (hi - lo) ((l.drop lo).take (hi - lo)) := by
  have := Sl.cut hs h1 h2 h3 hA
  unfold Bs
  rw [Nat.mul_one, Nat.mul_one] at this
  rwa [← List.map_drop, ← List.map_take] at this
end

theorem Bs.ld {b off k : Nat} {c : UInt8} {w : World} {G : List Nat} {n : Nat} {l : List UInt8} (h : Bs w G (some ⟨b, off, none⟩) n l) (hc : l[k]? = some c) : w.cell? ⟨b, off + k, none⟩ = some (u8 c) := by
  have hk : k < l.length := (List.getElem?_eq_some_iff.1 hc).1
  obtain ⟨b', off', e, -, hx⟩ := h.ex (by rw [← h.len]; omega)
  cases e
  rw [hx k hk]
  rw [List.getElem?_eq_getElem hk] at hc
  rw [Option.some.inj hc]
theorem Sl.ld {b off k size : Nat} {v : Value} {w : World} {G : List Nat} {n : Nat} {xs : List Value} (h : Sl w size G (some ⟨b, off, none⟩) n xs) (hc : xs[k]? = some v) : w.cell? ⟨b, off + k, none⟩ = some v := by
  have hk : k < xs.length := (List.getElem?_eq_some_iff.1 hc).1
  have hn : 0 < n := by
    rcases Nat.eq_zero_or_pos n with rfl | h1
    · rw [h.1] at hk
      simp at hk
    · exact h1
  obtain ⟨b', off', e, -, -, hx⟩ := h.2 hn
  cases e
  exact hx k v hc
theorem Bs.some_ {w : World} {G : List Nat} {A : Option Addr} {n : Nat} {l : List UInt8} (h : Bs w G A n l) (hn : 0 < n) : ∃ b off, A = some ⟨b, off, none⟩ ∧ b ∈ G := by
  obtain ⟨b, off, hA, hG, -⟩ := h.ex hn
  exact ⟨b, off, hA, hG⟩
/-- A region that draws its order, and that makes new memory at most. -/
theorem VDraw.q {P : Program} {n : Nat} {ops : Array Oper} {N : Fr → World → Prop} {ρ : Fr} {w : World} (hm : P.follows .mixedOrders = true) (hB : (Region.lexB .any ops && okOps n ops.toList) = true)
    (h : vcQ P (fun w' => Only [] w w') ops.toList (fun ρ' => ∀ w', Only [] w w' → N ρ' w') 0 ops.toList ρ) : VDraw P n ops N ρ w :=
  VDraw.quiet (fun w' => Only [] w w') hm hB (Only.refl [] w).drew h
theorem p0 (i : Nat) : i = 0 + i * 1 := by omega
theorem p1 (off i : Nat) : off + i = off + i * 1 := by omega
theorem Only.t0 {a b c : World} (h : Only [] a b) (k : Only [] b c) : Only [] a c := h.trans k (by simp)
theorem Only.up {F : List Nat} {a b : World} (h : Only [] a b) : Only F a b := h.mono (by simp)
theorem Only.f0 {F : List Nat} {a b c : World} (h : Only F a b) (k : Only [] b c) : Only F a c := h.trans k (by simp)
theorem Only.zf {F : List Nat} {a b c : World} (h : Only [] a b) (k : Only F b c) : Only F a c := h.up.trans k (fun x hx => .inl hx)
theorem Only.ff {F : List Nat} {a b c : World} (h : Only F a b) (k : Only F b c) : Only F a c := h.trans k (fun x hx => .inl hx)
/-- A contract, met in a world that has grown. -/
theorem Does.q {P : Program} {f : FuncId} {args : List Value} {w w' : World} {v : Value} (h : Does P f args w' (fun u w2 => u = v ∧ Only [] w' w2)) (ho : Only [] w w') : Does P f args w' (fun u w2 => u = v ∧ Only [] w w2) :=
  h.mono fun _ _ ⟨e, hu⟩ => ⟨e, ho.t0 hu⟩
/-- What comes behind, out of sight: so the kernel need not look there. -/
theorem splitB.abs {P : Program} {l : List Oper} {N : Fr → World → Prop} {g : Bool} {v : Value} {k : Nat} {r : List Oper} {w : World} {F : Value → Fr}
    (h : ∀ N0 : Fr → World → Prop, (∀ ρ w, N ρ w → N0 ρ w) → splitB g v (fun v => vcOps P l N0 k r (F v) w)) : splitB g v (fun v => vcOps P l N k r (F v) w) := h N (fun _ _ h => h)
theorem vc.abs {P : Program} {n id : Nat} {ops : Array Oper} {d : Code} {N : Fr → World → Prop} {X : Exit → Fr → World → Prop} {ρ : Fr} {w : World}
    (h : ∀ N0 : Fr → World → Prop, (∀ ρ w, vc P n d N X ρ w → N0 ρ w) → vcOps P ops.toList N0 0 ops.toList ρ w) : vc P n (.seq (.region id ops false) d) N X ρ w := h (fun ρ w => vc P n d N X ρ w) (fun _ _ h => h)
theorem vc.abs2 {P : Program} {n id : Nat} {ops : Array Oper} {b d : Code} {N : Fr → World → Prop} {X : Exit → Fr → World → Prop} {ρ : Fr} {w : World} (hj : joins b = false)
    (h : ∀ N0 : Fr → World → Prop, (∀ ρ w, vc P n b (fun ρ' w' => vc P n d N X ρ' w') X ρ w → N0 ρ w) → vcOps P ops.toList N0 0 ops.toList ρ w) : vc P n (.seq (.seq (.region id ops false) b) d) N X ρ w := by
  have e : joins (.seq (.region id ops false) b) = false := by
    show (false || joins b) = false
    rw [hj]
    rfl
  unfold vc
  rw [e]
  exact h (fun ρ w => vc P n b (fun ρ' w' => vc P n d N X ρ' w') X ρ w) (fun _ _ h => h)
theorem VDraw.abs {P : Program} {n : Nat} {ops : Array Oper} {N : Fr → World → Prop} {ρ : Fr} {w : World} (h : ∀ N0 : Fr → World → Prop, (∀ ρ w, N ρ w → N0 ρ w) → VDraw P n ops N0 ρ w) : VDraw P n ops N ρ w := h N (fun _ _ h => h)
end Go.Proofs.YtofomopdaponbaaGreatDoor
