/-
  The document's answer on packets (mosaicref05): a word, an address of version 4.
-/
import Derived.Test.YtofomopdaponbaaGreatDoorZt
import Derived.Test.YtofomopdaponbaaGreatDoorZd
namespace Go.Proofs.YtofomopdaponbaaGreatDoor
open Go.RowKit
set_option linter.unusedVariables false
set_option linter.unusedSimpArgs false

set_option maxRecDepth 100000 in
theorem rget5_does {w : World} {G : List Nat} {A : Option Addr} {n c k : Nat} {l : List UInt8} (h : Bs w G A n l) (hk : k + 2 ≤ n) (hn : n ≤ 140737488355328) :
    Does Tryz.prog 178 [.slice A n c, .int .i64 k] w (fun v w' => v = .int .i64 (wordL l k) ∧ Only [] w w') := by
  have hl := h.len
  obtain ⟨b, off, rfl, -⟩ := h.some_ (by omega)
  have b0 : (l.getD k 0).toNat < 256 := (l.getD k 0).toNat_lt
  have b1 : (l.getD (k + 1) 0).toNat < 256 := (l.getD (k + 1) 0).toNat_lt
  refine Does.enter (fn := Tryz.f178) (by kernel_rfl) rfl (by kernel_rfl) (by kernel_rfl) ?_
  conv => whnf
  refine VDraw.q (by kernel_rfl) (by kernel_rfl) ?_
  conv => whnf
  refine ⟨_, _, rfl, k, off + k, rfl, by omega, p1 _ _, ?_⟩
  conv => whnf
  refine ⟨_, fun w' hw' => Loads.one (by kernel_rfl) ((h.o hw').ld (getD_some (by omega))), ?_⟩
  conv => whnf
  refine ⟨_, _, rfl, k + 1, off + (k + 1), by rw [wi64]; omega, by omega, p1 _ _, ?_⟩
  conv => whnf
  refine ⟨_, fun w' hw' => Loads.one (by kernel_rfl) ((h.o hw').ld (getD_some (by omega))), ?_⟩
  conv => whnf
  intro w' ho
  conv => whnf
  refine ⟨congrArg (Value.int IntKind.i64) ?_, ho⟩
  unfold wordL
  simp only [wi64]
  omega
set_option maxRecDepth 100000 in
theorem rget30_does {w : World} {G : List Nat} {A : Option Addr} {n c k : Nat} {l : List UInt8} (h : Bs w G A n l) (hk : k + 2 ≤ n) (hn : n ≤ 140737488355328) :
    Does Tryz.prog 117 [.slice A n c, .int .i64 k] w (fun v w' => v = .int .i64 (wordL l k) ∧ Only [] w w') := by
  have hl := h.len
  obtain ⟨b, off, rfl, -⟩ := h.some_ (by omega)
  have b0 : (l.getD k 0).toNat < 256 := (l.getD k 0).toNat_lt
  have b1 : (l.getD (k + 1) 0).toNat < 256 := (l.getD (k + 1) 0).toNat_lt
  refine Does.enter (fn := Tryz.f117) (by kernel_rfl) rfl (by kernel_rfl) (by kernel_rfl) ?_
  conv => whnf
  refine VDraw.q (by kernel_rfl) (by kernel_rfl) ?_
  conv => whnf
  refine ⟨_, _, rfl, k, off + k, rfl, by omega, p1 _ _, ?_⟩
  conv => whnf
  refine ⟨_, fun w' hw' => Loads.one (by kernel_rfl) ((h.o hw').ld (getD_some (by omega))), ?_⟩
  conv => whnf
  refine ⟨_, _, rfl, k + 1, off + (k + 1), by rw [wi64]; omega, by omega, p1 _ _, ?_⟩
  conv => whnf
  refine ⟨_, fun w' hw' => Loads.one (by kernel_rfl) ((h.o hw').ld (getD_some (by omega))), ?_⟩
  conv => whnf
  intro w' ho
  conv => whnf
  refine ⟨congrArg (Value.int IntKind.i64) ?_, ho⟩
  unfold wordL
  simp only [wi64]
  omega
/-- An address of version 4. -/
def is4A (a : Ad) : Bool := decide (a.1 = 4) && (a.2.drop 4).all (fun c => c == 0)
set_option maxRecDepth 100000 in
theorem raddr4_does {w : World} {a : Ad} (h : okAd a) : Does Tryz.prog 235 [.agg ⟨adC a⟩] w (fun v w' => v = .bool (is4A a) ∧ Only [] w w') := by
  have hb := Blk.new w 24 ⟨adC a⟩
  have ho : Only [] w (w.alloc (.cells ⟨adC a⟩ 24)) := (Only.refl [] w).alloc _
  have h16 := h.2.2
  refine Does.enter (fn := Tryz.f235) (by kernel_rfl) rfl (by kernel_rfl) (by kernel_rfl) ?_
  conv => whnf
  refine VLoop.inv (α := Nat) [(2, 13)] (fun i => [(3, .int .i64 i)]) (fun i w' => w.alloc (.cells ⟨adC a⟩ 24) = w' ∧ 4 ≤ i ∧ i ≤ 16 ∧ ∀ k (hk : k < 16), 4 ≤ k → k < i → a.2[k]'(by omega) = 0) (fun i => 16 - i) 4 (by kernel_rfl) ⟨rfl, trivial⟩ ⟨rfl, by decide, by decide, fun k hk h1 h2 => by omega⟩ ?_
  rintro i wr j ⟨rfl, h4i, hi, hz⟩
  conv => whnf
  refine VIf.dec (fun ht => ?_) (fun ht => ?_)
  · have ht : (i : Int) < 16 := ht
    conv => whnf
    refine ⟨i, 1 + i, rfl, by omega, p1 _ _, ?_⟩
    conv => whnf
    refine ⟨u8 (a.2[i]'(by omega)), Loads.one (by kernel_rfl) (hb.at (adC_at (by omega))), ?_⟩
    conv => whnf
    refine VIf.ne (fun h0 => ?_) (fun h0 => ?_)
    · conv => whnf
      refine ⟨congrArg Value.bool ?_, ho⟩
      unfold is4A
      have hall : (a.2.drop 4).all (fun c => c == 0) = false := by
        rw [Bool.eq_false_iff]
        intro hall
        have := List.all_eq_true.1 hall (a.2[i]'(by omega)) (by
          rw [List.mem_drop_iff_getElem]
          exact ⟨i - 4, by omega, by congr 1; omega⟩)
        simp at this
        rw [this] at h0
        exact h0 rfl
      rw [hall]
      simp
    · conv => whnf
      refine ⟨i + 1, ⟨congrArg (Value.int IntKind.i64) (by rw [wi64]; omega), trivial⟩, ⟨rfl, by omega, by omega, fun k hk h1 h2 => ?_⟩, by omega⟩
      by_cases e : k = i
      · subst e
        exact UInt8.toNat_inj.1 (by simpa using h0)
      · exact hz k hk h1 (by omega)
  · have ht : ¬ (i : Int) < 16 := ht
    conv => whnf
    refine ⟨_, Loads.one (by kernel_rfl) (hb.at (i := 0) rfl), ?_⟩
    conv => whnf
    refine ⟨congrArg Value.bool ?_, ho⟩
    unfold is4A
    have hall : (a.2.drop 4).all (fun c => c == 0) = true := by
      refine List.all_eq_true.2 fun c hc => ?_
      obtain ⟨k, hk, rfl⟩ := List.mem_drop_iff_getElem.1 hc
      have := hz (4 + k) (by omega) (by omega) (by omega)
      simp [this]
    rw [hall]
    by_cases e4 : a.1 = 4
    · simp [e4]
    · simp [e4]
end Go.Proofs.YtofomopdaponbaaGreatDoor
/-
  The document's answer on sums (mosaicref30): add, patch.
-/
namespace Go.Proofs.YtofomopdaponbaaGreatDoor
open Go.RowKit
set_option linter.unusedVariables false
set_option linter.unusedSimpArgs false

theorem addI_add {a b : Int} (h : 0 ≤ a ∧ a ≤ 65535) (k : 0 ≤ b ∧ b ≤ 65535) : addI a b = if a + b > 65535 then a + b - 65535 else a + b := by
  unfold addI foldI
  split <;> split <;> omega
set_option maxRecDepth 100000 in
theorem radd_does {w : World} {a b : Int} (h : 0 ≤ a ∧ a ≤ 65535) (k : 0 ≤ b ∧ b ≤ 65535) : Does Tryz.prog 236 [.int .i64 a, .int .i64 b] w (fun v w' => v = .int .i64 (addI a b) ∧ w = w') := by
  have e : IntKind.i64.wrap (a + b) = a + b := by rw [wi64]; omega
  have e2 : IntKind.i64.wrap (a + b - 65535) = a + b - 65535 := by rw [wi64]; omega
  rw [addI_add h k]
  refine Does.enter (fn := Tryz.f236) (by kernel_rfl) rfl (by kernel_rfl) (by kernel_rfl) ?_
  conv => whnf
  refine VJoin.go (by kernel_rfl) ?_
  conv => whnf
  refine VIf.dec (fun ht => ?_) (fun ht => ?_)
  · have ht : IntKind.i64.wrap (a + b) > 65535 := ht
    rw [e] at ht
    conv => whnf
    exact ⟨congrArg (Value.int .i64) (by rw [if_pos ht, e, e2]), rfl⟩
  · have ht : ¬ IntKind.i64.wrap (a + b) > 65535 := ht
    rw [e] at ht
    conv => whnf
    exact ⟨congrArg (Value.int .i64) (by rw [if_neg ht, e]), rfl⟩
set_option maxRecDepth 100000 in
theorem rpatch_does {w : World} {s x y : Int} (h : 0 ≤ s ∧ s ≤ 65535) (k : 0 ≤ x ∧ x ≤ 65535) (l : 0 ≤ y ∧ y ≤ 65535) : Does Tryz.prog 189 [.int .i64 s, .int .i64 x, .int .i64 y] w (fun v w' => v = .int .i64 (patchI s x y) ∧ w = w') := by
  have e1 : IntKind.i64.wrap (65535 - s) = 65535 - s := by rw [wi64]; omega
  have e2 : IntKind.i64.wrap (65535 - x) = 65535 - x := by rw [wi64]; omega
  have b1 := addI_bd (a := 65535 - s) (b := 65535 - x) (by omega) (by omega)
  have b2 := addI_bd (a := addI (65535 - s) (65535 - x)) (b := y) b1.1 l.1
  have e3 : IntKind.i64.wrap (65535 - addI (addI (65535 - s) (65535 - x)) y) = 65535 - addI (addI (65535 - s) (65535 - x)) y := by rw [wi64]; omega
  refine Does.enter (fn := Tryz.f189) (by kernel_rfl) rfl (by kernel_rfl) (by kernel_rfl) ?_
  conv => whnf
  rw [e1, e2]
  refine (radd_does (by omega) (by omega)).mono ?_
  rintro v w1 ⟨rfl, rfl⟩
  conv => whnf
  refine (radd_does b1 l).mono ?_
  rintro v w2 ⟨rfl, rfl⟩
  conv => whnf
  exact ⟨congrArg (Value.int .i64) e3, rfl⟩
set_option maxRecDepth 100000 in
theorem rword_does {w : World} {a : Ad} {i : Nat} (h : okAd a) (hi : i ≤ 1) : Does Tryz.prog 187 [.agg ⟨adC a⟩, .int .i64 i] w (fun v w' => v = .int .i64 (wordL a.2 (2 * i)) ∧ Only [] w w') := by
  have hb := Blk.new w 24 ⟨adC a⟩
  have ho : Only [] w (w.alloc (.cells ⟨adC a⟩ 24)) := (Only.refl [] w).alloc _
  have h16 := h.2.2
  have e0 : a.2.getD (2 * i) 0 = a.2[2 * i]'(by omega) := by rw [List.getD_eq_getElem?_getD, List.getElem?_eq_getElem (by omega)]; rfl
  have e1 : a.2.getD (2 * i + 1) 0 = a.2[2 * i + 1]'(by omega) := by rw [List.getD_eq_getElem?_getD, List.getElem?_eq_getElem (by omega)]; rfl
  have b0 : (a.2[2 * i]'(by omega)).toNat < 256 := (a.2[2 * i]'(by omega)).toNat_lt
  have b1 : (a.2[2 * i + 1]'(by omega)).toNat < 256 := (a.2[2 * i + 1]'(by omega)).toNat_lt
  refine Does.enter (fn := Tryz.f187) (by kernel_rfl) rfl (by kernel_rfl) (by kernel_rfl) ?_
  conv => whnf
  refine VDraw.q (by kernel_rfl) (by kernel_rfl) ?_
  conv => whnf
  refine ⟨2 * i, 1 + 2 * i, by rw [wi64]; omega, by omega, p1 _ _, ?_⟩
  conv => whnf
  refine ⟨u8 (a.2[2 * i]'(by omega)), fun w' hw' => Loads.one (by kernel_rfl) ((hb.only hw' (by simp)).at (adC_at (by omega))), ?_⟩
  conv => whnf
  refine ⟨2 * i + 1, 1 + (2 * i + 1), by rw [wi64, wi64]; omega, by omega, p1 _ _, ?_⟩
  conv => whnf
  refine ⟨u8 (a.2[2 * i + 1]'(by omega)), fun w' hw' => Loads.one (by kernel_rfl) ((hb.only hw' (by simp)).at (adC_at (by omega))), ?_⟩
  conv => whnf
  intro w' ho2
  conv => whnf
  refine ⟨congrArg (Value.int IntKind.i64) ?_, ho.t0 ho2⟩
  unfold wordL
  rw [e0, e1]
  simp only [wi64]
  omega
set_option maxRecDepth 100000 in
theorem rput_does {w : World} {F : List Nat} {A : Option Addr} {n c k : Nat} {l : List UInt8} {v : Int} (h : Row w 5 1 F A n c (l.map u8)) (hk : k + 1 < n) (h0 : 0 ≤ v) (h1 : v ≤ 65535) :
    Does Tryz.prog 188 [.slice A n c, .int .i64 k, .int .i64 v] w (fun r w' => r = .tuple ⟨[]⟩ ∧ Row w' 5 1 F A n c ((setW l k v).map u8) ∧ Only F w w') := by
  have hle := h.le
  have hmx : c ≤ 9223372036854775807 := hle.2
  have e1 : IntKind.u8.wrap (IntKind.i64.wrap (v.tdiv 256)) = ((hiB v).toNat : Int) := by rw [Int.tdiv_eq_ediv_of_nonneg h0, wr8, wi64, hiB_eq h0 h1]; omega
  have e2 : IntKind.u8.wrap (v.tmod 256) = ((loB v).toNat : Int) := by rw [Int.tmod_eq_emod_of_nonneg h0, wr8, loB_eq h0]; omega
  obtain ⟨g, rfl, rfl, hf, ⟨u, hu⟩, hr1⟩ := h.put (i := k) (v := u8 (hiB v)) (by omega)
  obtain ⟨g', e, _, hf2, ⟨u2, hu2⟩, hr2⟩ := hr1.put (i := k + 1) (v := u8 (loB v)) hk
  cases e
  refine Does.enter (fn := Tryz.f188) (by kernel_rfl) rfl (by kernel_rfl) (by kernel_rfl) ?_
  conv => whnf
  refine ⟨_, _, rfl, k, k, rfl, by omega, p0 _, ?_⟩
  conv => whnf
  rw [e1]
  refine ⟨_, Stores.one (by kernel_rfl) rfl hu hf, ?_⟩
  conv => whnf
  refine ⟨_, _, rfl, k + 1, k + 1, by rw [wi64]; omega, by omega, p0 _, ?_⟩
  conv => whnf
  rw [e2]
  refine ⟨_, Stores.one (by kernel_rfl) rfl hu2 hf2, ?_⟩
  conv => whnf
  refine ⟨rfl, ?_, ((Only.refl _ w).put (.inl (by simp))).put (.inl (by simp))⟩
  unfold setW
  rw [List.map_set, List.map_set]
  exact hr2
end Go.Proofs.YtofomopdaponbaaGreatDoor
/-
  The document's answer on packets (mosaicref05): what a head's first byte says; the reserved flag.
-/
namespace Go.Proofs.YtofomopdaponbaaGreatDoor
open Go.RowKit
set_option linter.unusedVariables false
set_option linter.unusedSimpArgs false

set_option maxRecDepth 100000 in
theorem rreserved_does {w : World} {G : List Nat} {A : Option Addr} {n c : Nat} {l : List UInt8} (h : Bs w G A n l) (hk : 20 ≤ n) :
    Does Tryz.prog 181 [.slice A n c] w (fun v w' => v = .bool (decide (128 ≤ (l.getD 6 0).toNat)) ∧ Only [] w w') := by
  have hl := h.len
  obtain ⟨b, off, rfl, -⟩ := h.some_ (by omega)
  refine Does.enter (fn := Tryz.f181) (by kernel_rfl) rfl (by kernel_rfl) (by kernel_rfl) ?_
  conv => whnf
  refine ⟨_, _, rfl, 6, off + 6, rfl, by omega, p1 _ _, ?_⟩
  conv => whnf
  refine ⟨_, Loads.one (by kernel_rfl) (h.ld (getD_some (by omega))), ?_⟩
  conv => whnf
  refine ⟨congrArg Value.bool ?_, Only.refl _ _⟩
  have e : ((l.getD 6 0).toNat : Int) ≥ 128 ↔ 128 ≤ (l.getD 6 0).toNat := by omega
  exact decide_eq_decide.2 e
/-- The head's length and the error that the first byte makes. -/
def rheadE (l : List UInt8) : Int × Int :=
  if l.length < 20 then (0, 20)
  else if (l.getD 0 0).toNat / 16 ≠ 4 ∨ (l.getD 0 0).toNat % 16 * 4 < 20 then (0, 50)
  else if (l.getD 0 0).toNat % 16 * 4 > l.length then (0, 20) else (((l.getD 0 0).toNat % 16 * 4 : Nat), 0)
set_option maxRecDepth 100000 in
theorem rheadOf_does {w : World} {G : List Nat} {A : Option Addr} {n c : Nat} {l : List UInt8} (h : Bs w G A n l) (hn : n ≤ 140737488355328) :
    Does Tryz.prog 177 [.slice A n c] w (fun v w' => v = .tuple ⟨[.int .i64 (rheadE l).1, .int .i64 (rheadE l).2]⟩ ∧ Only [] w w') := by
  have hl := h.len
  refine Does.enter (fn := Tryz.f177) (by kernel_rfl) rfl (by kernel_rfl) (by kernel_rfl) ?_
  conv => whnf
  refine VIf.dec (fun h1 => ?_) (fun h1 => ?_)
  · have h1 : (n : Int) < 20 := h1
    conv => whnf
    refine ⟨?_, Only.refl _ _⟩
    unfold rheadE
    rw [if_pos (by omega)]
  have h1 : ¬ (n : Int) < 20 := h1
  obtain ⟨b, off, rfl, -⟩ := h.some_ (by omega)
  have hb := (l.getD 0 0).toNat_lt
  have e1 : ((l.getD 0 0).toNat : Int).tmod 16 = (((l.getD 0 0).toNat % 16 : Nat) : Int) := by rw [Int.tmod_eq_emod_of_nonneg (by omega)]; rfl
  have e2 : ((l.getD 0 0).toNat : Int).tdiv 16 = (((l.getD 0 0).toNat / 16 : Nat) : Int) := by rw [Int.tdiv_eq_ediv_of_nonneg (by omega)]; rfl
  conv => whnf
  refine ⟨_, _, rfl, 0, off + 0, rfl, by omega, p1 _ _, ?_⟩
  conv => whnf
  refine ⟨_, Loads.one (by kernel_rfl) (h.ld (getD_some (by omega))), ?_⟩
  conv => whnf
  refine ⟨_, _, rfl, 0, off + 0, rfl, by omega, p1 _ _, ?_⟩
  conv => whnf
  refine ⟨_, Loads.one (by kernel_rfl) (h.ld (getD_some (by omega))), ?_⟩
  conv => whnf
  have e0 : IntKind.i64.wrap ((l.getD 0 0).toNat : Int) = ((l.getD 0 0).toNat : Int) := by rw [wi64]; omega
  have e3 : IntKind.i64.wrap (((l.getD 0 0).toNat : Int).tdiv 16) = (((l.getD 0 0).toNat / 16 : Nat) : Int) := by rw [e2, wi64]; omega
  have e4 : IntKind.i64.wrap (((l.getD 0 0).toNat : Int).tmod 16 * 4) = (((l.getD 0 0).toNat % 16 * 4 : Nat) : Int) := by rw [e1, wi64]; omega
  refine VIf.ne (fun h2 => ?_) (fun h2 => ?_)
  · rw [e0, e3] at h2
    conv => whnf
    refine ⟨?_, Only.refl _ _⟩
    unfold rheadE
    rw [if_neg (by omega), if_pos (.inl (by omega))]
  rw [e0, e3] at h2
  conv => whnf
  refine VIf.dec (fun h3 => ?_) (fun h3 => ?_)
  · rw [e0, e4] at h3
    conv => whnf
    refine ⟨?_, Only.refl _ _⟩
    unfold rheadE
    rw [if_neg (by omega), if_pos (.inr (by omega))]
  rw [e0, e4] at h3
  conv => whnf
  refine VIf.dec (fun h5 => ?_) (fun h5 => ?_)
  · rw [e0, e4] at h5
    have h5 : (((l.getD 0 0).toNat % 16 * 4 : Nat) : Int) > (n : Int) := h5
    conv => whnf
    refine ⟨?_, Only.refl _ _⟩
    unfold rheadE
    rw [if_neg (by omega), if_neg (by omega), if_pos (by omega)]
  · rw [e0, e4] at h5
    have h5 : ¬ (((l.getD 0 0).toNat % 16 * 4 : Nat) : Int) > (n : Int) := h5
    conv => whnf
    refine ⟨?_, Only.refl _ _⟩
    unfold rheadE
    rw [if_neg (by omega), if_neg (by omega), if_neg (by omega), e0, e4]
end Go.Proofs.YtofomopdaponbaaGreatDoor
/-
  The document's answer on sums (mosaicref05): Part.
-/
namespace Go.Proofs.YtofomopdaponbaaGreatDoor
open Go.RowKit
set_option linter.unusedVariables false
set_option linter.unusedSimpArgs false

theorem foldI_self {a : Int} (h : 0 ≤ a ∧ a ≤ 65535) : foldI a = a := by
  unfold foldI
  split <;> omega
theorem wsum_step {l : List UInt8} {i : Nat} (h : i + 1 < l.length) : wsum (l.drop i) = wordL l i + wsum (l.drop (i + 2)) := by
  rw [List.drop_eq_getElem_cons (show i < l.length by omega), List.drop_eq_getElem_cons h]
  unfold wordL
  rw [List.getD_eq_getElem?_getD, List.getD_eq_getElem?_getD, List.getElem?_eq_getElem (show i < l.length by omega), List.getElem?_eq_getElem h]
  rfl
set_option maxRecDepth 100000 in
theorem rpart_does {w : World} {G : List Nat} {A : Option Addr} {n c : Nat} {l : List UInt8} (h : Bs w G A n l) (he : n % 2 = 0) (hc : n ≤ 140737488355328) :
    Does Tryz.prog 249 [.slice A n c] w (fun v w' => v = .int .i64 (partL l) ∧ Only [] w w') := by
  have hl := h.len
  refine Does.enter (fn := Tryz.f249) (by kernel_rfl) rfl (by kernel_rfl) (by kernel_rfl) ?_
  conv => whnf
  refine VLoop.inv (α := Nat × Int) [(3, 5), (5, 31)] (fun | (i, acc) => [(3, .int .i64 acc), (4, .int .i64 i)])
    (fun | (i, acc) => fun w' => Only [] w w' ∧ i ≤ n ∧ i % 2 = 0 ∧ 0 ≤ acc ∧ acc ≤ 65535 ∧ foldI (acc + wsum (l.drop i)) = partL l) (fun | (i, acc) => n - i) (0, 0) (by kernel_rfl) ⟨rfl, rfl, trivial⟩ ⟨Only.refl _ _, by omega, rfl, by decide, by decide, by rw [List.drop_zero, Int.zero_add]; rfl⟩ ?_
  rintro ⟨i, acc⟩ wr j ⟨ho, hi, hi2, ha0, ha1, hf⟩
  conv => whnf
  refine VIf.dec (fun ht => ?_) (fun ht => ?_)
  · rw [wi64] at ht
    have hti : i + 1 < n := by omega
    obtain ⟨b, off, rfl, -⟩ := h.some_ (by omega)
    have hb := h.o ho
    have b0 : (l.getD i 0).toNat < 256 := (l.getD i 0).toNat_lt
    have b1 : (l.getD (i + 1) 0).toNat < 256 := (l.getD (i + 1) 0).toNat_lt
    have hst := wsum_step (l := l) (i := i) (by omega)
    have hbd := wordL_bd l i
    have hwl := wsum_le (l.drop (i + 2))
    conv => whnf
    refine VDraw.q (by kernel_rfl) (by kernel_rfl) ?_
    conv => whnf
    refine ⟨_, _, rfl, i, off + i, rfl, by omega, p1 _ _, ?_⟩
    conv => whnf
    refine ⟨_, fun w' hw' => Loads.one (by kernel_rfl) ((hb.o hw').ld (getD_some (by omega))), ?_⟩
    conv => whnf
    refine ⟨_, _, rfl, i + 1, off + (i + 1), by rw [wi64]; omega, by omega, p1 _ _, ?_⟩
    conv => whnf
    refine ⟨_, fun w' hw' => Loads.one (by kernel_rfl) ((hb.o hw').ld (getD_some (by omega))), ?_⟩
    conv => whnf
    intro w2 ho2
    conv => whnf
    have ew : IntKind.i64.wrap (IntKind.i64.wrap (acc + IntKind.i64.wrap (256 * IntKind.i64.wrap ((l.getD i 0).toNat : Int))) + IntKind.i64.wrap ((l.getD (i + 1) 0).toNat : Int)) = acc + wordL l i := by
      have w0 : IntKind.i64.wrap ((l.getD i 0).toNat : Int) = (l.getD i 0).toNat := wi_id (by omega) (by omega)
      have w1 : IntKind.i64.wrap ((l.getD (i + 1) 0).toNat : Int) = (l.getD (i + 1) 0).toNat := wi_id (by omega) (by omega)
      have w2 : IntKind.i64.wrap (256 * ((l.getD i 0).toNat : Int)) = 256 * ((l.getD i 0).toNat : Int) := wi_id (by omega) (by omega)
      have w3 : IntKind.i64.wrap (acc + 256 * ((l.getD i 0).toNat : Int)) = acc + 256 * ((l.getD i 0).toNat : Int) := wi_id (by omega) (by omega)
      rw [w0, w1, w2, w3, wi_id (by omega) (by omega)]
      unfold wordL
      omega
    have fold2 : ∀ a r : Int, 65535 < a → 0 ≤ r → foldI (a - 65535 + r) = foldI (a + r) := fun a r h1 h2 => by unfold foldI; rw [if_neg (by omega), if_neg (by omega)]; omega
    refine VIf.dec (fun h2 => ?_) (fun h2 => ?_)
    · rw [ew] at h2
      conv => whnf
      refine ⟨(i + 2, acc + wordL l i - 65535), ⟨congrArg (Value.int IntKind.i64) (by rw [ew, wi64]; omega), congrArg (Value.int IntKind.i64) (by rw [wi64]; omega), trivial⟩, ⟨ho.t0 ho2, by omega, by omega, by omega, by omega, ?_⟩, by show n - (i + 2) < n - i; omega⟩
      rw [fold2 _ _ (by omega) hwl.1, Int.add_assoc, ← hst]
      exact hf
    · rw [ew] at h2
      conv => whnf
      refine ⟨(i + 2, acc + wordL l i), ⟨congrArg (Value.int IntKind.i64) ew, congrArg (Value.int IntKind.i64) (by rw [wi64]; omega), trivial⟩, ⟨ho.t0 ho2, by omega, by omega, by omega, by omega, ?_⟩, by show n - (i + 2) < n - i; omega⟩
      rw [Int.add_assoc, ← hst]
      exact hf
  · rw [wi64] at ht
    have hin : i = n := by omega
    conv => whnf
    refine ⟨congrArg (Value.int IntKind.i64) ?_, ho⟩
    rw [hin, List.drop_of_length_le (by omega)] at hf
    rw [← hf]
    show acc = foldI (acc + 0)
    rw [Int.add_zero, foldI_self ⟨ha0, ha1⟩]
end Go.Proofs.YtofomopdaponbaaGreatDoor
