/-
  Addresses (package addr): bits, Valid, Kind, Mask, Within.
-/
import Derived.Test.YtofomopdaponbaaGreatDoorZb
namespace Go.Proofs.YtofomopdaponbaaGreatDoor
open Go.RowKit
set_option linter.unusedVariables false

theorem adC_at {a : Ad} {k : Nat} (hk : k < a.2.length) : (adC a)[1 + k]? = some (u8 a.2[k]) := by
  rw [Nat.add_comm]
  simp [adC, hk]
theorem adC_v (a : Ad) : (adC a)[0]? = some (.int .i64 a.1) := rfl
/-- How many bits an address has; 0: it is none. -/
def bitsA (a : Ad) : Int := if a.1 = 4 then (if (a.2.drop 4).all (fun c => c == 0) = true then 32 else 0) else if a.1 = 6 then 128 else 0
theorem bitsA_cases (a : Ad) : bitsA a = 0 ∨ bitsA a = 32 ∨ bitsA a = 128 := by
  unfold bitsA
  split
  · split <;> simp
  · split <;> simp
set_option maxRecDepth 100000 in
theorem bits_does {w : World} {a : Ad} (h : okAd a) : Does Tryz.prog 170 [.agg ⟨adC a⟩] w (fun v w' => v = .int .i64 (bitsA a) ∧ Only [] w w') := by
  have hb := Blk.new w 24 ⟨adC a⟩
  have ho : Only [] w (w.alloc (.cells ⟨adC a⟩ 24)) := (Only.refl [] w).alloc _
  have h16 := h.2.2
  refine Does.enter (fn := Tryz.f170) (by kernel_rfl) rfl (by kernel_rfl) (by kernel_rfl) ?_
  conv => whnf
  refine ⟨_, Loads.one (by kernel_rfl) (hb.at (i := 0) rfl), ?_⟩
  conv => whnf
  refine VIf.eq (fun h4 => ?_) (fun h4 => ?_)
  · conv => whnf
    refine ⟨4, 16, 16, rfl, rfl, rfl, by decide, by decide, by decide, ⟨w.heap.size, 5, none⟩, 12, 12, rfl, rfl, rfl, ?_⟩
    conv => whnf
    refine VLoop.inv (α := Nat) [(2, 3), (4, 5), (12, 19)] (fun i => [(12, .int .i64 i)]) (fun i w' => w.alloc (.cells ⟨adC a⟩ 24) = w' ∧ i ≤ 12 ∧ ∀ k (hk : k < 16), 4 ≤ k → k < 4 + i → a.2[k]'(by omega) = 0) (fun i => 12 - i) 0 (by kernel_rfl) ⟨rfl, trivial⟩ ⟨rfl, by decide, fun k hk h1 h2 => by omega⟩ ?_
    rintro i wr j ⟨rfl, hi, hz⟩
    conv => whnf
    refine VIf.dec (fun ht => ?_) (fun ht => ?_)
    · conv => whnf
      refine ⟨_, _, rfl, i, 5 + i, rfl, by omega, p1 _ _, ?_⟩
      conv => whnf
      refine ⟨u8 (a.2[4 + i]'(by omega)), Loads.one (by kernel_rfl) (hb.at (by rw [show 5 + i = 1 + (4 + i) by omega]; exact adC_at (by omega))), ?_⟩
      conv => whnf
      refine VIf.ne (fun h0 => ?_) (fun h0 => ?_)
      · conv => whnf
        refine ⟨?_, ho⟩
        have e : bitsA a = 0 := by
          unfold bitsA
          rw [if_pos h4]
          refine if_neg fun hall => ?_
          have := List.all_eq_true.1 hall (a.2[4 + i]'(by omega)) (by
            rw [List.mem_drop_iff_getElem]
            exact ⟨i, by omega, rfl⟩)
          simp at this
          rw [this] at h0
          exact h0 rfl
        rw [e]
      · conv => whnf
        refine ⟨i + 1, ⟨congrArg (Value.int IntKind.i64) (by rw [wi64]; omega), trivial⟩, ⟨rfl, by omega, fun k hk h1 h2 => ?_⟩, by omega⟩
        by_cases e : k = 4 + i
        · subst e
          exact UInt8.toNat_inj.1 (by simpa using h0)
        · exact hz k hk h1 (by omega)
    · conv => whnf
      refine ⟨?_, ho⟩
      have e : bitsA a = 32 := by
        unfold bitsA
        rw [if_pos h4]
        refine if_pos (List.all_eq_true.2 fun c hc => ?_)
        obtain ⟨k, hk, rfl⟩ := List.mem_drop_iff_getElem.1 hc
        have := hz (4 + k) (by omega) (by omega) (by omega)
        simp [this]
      rw [e]
  · conv => whnf
    refine VIf.eq (fun h6 => ?_) (fun h6 => ?_)
    · conv => whnf
      exact ⟨by unfold bitsA; rw [if_neg h4, if_pos h6], ho⟩
    · conv => whnf
      exact ⟨by unfold bitsA; rw [if_neg h4, if_neg h6], ho⟩
/-- Is it an address? -/
def validA (a : Ad) : Bool := decide (bitsA a > 0)
set_option maxRecDepth 100000 in
theorem valid_does {w : World} {a : Ad} (h : okAd a) : Does Tryz.prog 171 [.agg ⟨adC a⟩] w (fun v w' => v = .bool (validA a) ∧ Only [] w w') := by
  have ho : Only [] w (w.alloc (.cells ⟨adC a⟩ 24)) := (Only.refl [] w).alloc _
  refine Does.enter (fn := Tryz.f171) (by kernel_rfl) rfl (by kernel_rfl) (by kernel_rfl) ?_
  conv => whnf
  refine ⟨_, Loads.all (Blk.new w 24 ⟨adC a⟩) (by kernel_rfl) (by rw [adC_len h]; kernel_rfl), ?_⟩
  conv => whnf
  refine (bits_does h).mono ?_
  rintro v w1 ⟨rfl, ho1⟩
  conv => whnf
  exact ⟨rfl, ho.t0 ho1⟩
/-- Its kind; 0: it is none. -/
def kindA (a : Ad) : Int :=
  if validA a = true then
    if a.2 = List.replicate 16 0 then 1
    else if a.1 = 6 then (if a.2 = List.replicate 15 0 ++ [1] then 2 else if a.2.getD 0 0 = 255 then 3 else 5)
    else if a.2.getD 0 0 = 127 then 2 else if 224 ≤ (a.2.getD 0 0).toNat ∧ (a.2.getD 0 0).toNat ≤ 239 then 3 else if a.2 = [255, 255, 255, 255, 0, 0, 0, 0, 0, 0, 0, 0, 0, 0, 0, 0] then 4 else 5
  else 0
theorem u8_inj {a b : UInt8} : (a.toNat : Int) = b.toNat ↔ a = b := ⟨fun h => UInt8.toNat_inj.1 (by omega), fun h => by rw [h]⟩
set_option maxRecDepth 100000 in
theorem kind_does {w : World} {a : Ad} (h : okAd a) : Does Tryz.prog 103 [.agg ⟨adC a⟩] w (fun v w' => v = .int .i64 (kindA a) ∧ Only [] w w') := by
  have hb := Blk.new w 24 ⟨adC a⟩
  have ho : Only [] w (w.alloc (.cells ⟨adC a⟩ 24)) := (Only.refl [] w).alloc _
  have h16 := h.2.2
  refine Does.enter (fn := Tryz.f103) (by kernel_rfl) rfl (by kernel_rfl) (by kernel_rfl) ?_
  conv => whnf
  refine ⟨_, Loads.all hb (by kernel_rfl) (by rw [adC_len h]; kernel_rfl), ?_⟩
  conv => whnf
  refine (valid_does h).mono ?_
  rintro v w1 ⟨rfl, ho1⟩
  have hb1 := hb.only ho1 (by simp)
  have ho2 := ho.t0 ho1
  have hB : ∀ P t, aggC P t = true → sizeOfT P t = some 16 → Loads P t ⟨w.heap.size, 1, none⟩ w1 (.agg ⟨a.2.map u8⟩) := fun P t h1 h2 => Loads.seg (ps := [.int .i64 a.1]) (bs := []) (by simpa [adC] using hb1) rfl h1 (by rw [h2]; simp [h16])
  have h0 : ∀ P t, oneC P t = true → Loads P t ⟨w.heap.size, 1, none⟩ w1 (u8 (a.2.getD 0 0)) := fun P t h1 => Loads.one h1 (hb1.at (i := 1) (by
    rw [show a.2.getD 0 0 = a.2[0]'(by omega) from by rw [List.getD_eq_getElem?_getD, List.getElem?_eq_getElem (show 0 < a.2.length by omega)]; rfl]
    exact adC_at (k := 0) (by omega)))
  conv => whnf
  cases hv : validA a with
  | false =>
    conv => whnf
    exact ⟨by unfold kindA; rw [hv]; rfl, ho2⟩
  | true =>
  conv => whnf
  refine ⟨_, hB _ _ (by kernel_rfl) (by kernel_rfl), ?_⟩
  conv => whnf
  refine ⟨_, eql_b16 (y := List.replicate 16 0) h16 rfl _ _, ?_⟩
  conv => whnf
  refine VIf.dec (fun e1 => ?_) (fun e1 => ?_)
  · conv => whnf
    exact ⟨by unfold kindA; rw [hv, if_pos rfl, if_pos e1], ho2⟩
  conv => whnf
  refine ⟨_, Loads.one (by kernel_rfl) (hb1.at (i := 0) rfl), ?_⟩
  conv => whnf
  refine VIf.eq (fun e2 => ?_) (fun e2 => ?_)
  · conv => whnf
    refine ⟨_, hB _ _ (by kernel_rfl) (by kernel_rfl), ?_⟩
    conv => whnf
    refine ⟨_, eql_b16 (y := List.replicate 15 0 ++ [1]) h16 rfl _ _, ?_⟩
    conv => whnf
    refine VIf.dec (fun e3 => ?_) (fun e3 => ?_)
    · conv => whnf
      exact ⟨by unfold kindA; rw [hv, if_pos rfl, if_neg e1, if_pos e2, if_pos e3], ho2⟩
    conv => whnf
    refine ⟨0, _, rfl, by decide, rfl, ?_⟩
    conv => whnf
    refine ⟨_, h0 _ _ (by kernel_rfl), ?_⟩
    conv => whnf
    refine VIf.eq (fun e4 => ?_) (fun e4 => ?_)
    · conv => whnf
      exact ⟨by unfold kindA; rw [hv, if_pos rfl, if_neg e1, if_pos e2, if_neg e3, if_pos (u8_inj.1 e4)], ho2⟩
    · conv => whnf
      exact ⟨by unfold kindA; rw [hv, if_pos rfl, if_neg e1, if_pos e2, if_neg e3, if_neg (fun e => e4 (u8_inj.2 e))], ho2⟩
  conv => whnf
  refine ⟨0, _, rfl, by decide, rfl, ?_⟩
  conv => whnf
  refine ⟨_, h0 _ _ (by kernel_rfl), ?_⟩
  conv => whnf
  refine VIf.eq (fun e3 => ?_) (fun e3 => ?_)
  · conv => whnf
    exact ⟨by unfold kindA; rw [hv, if_pos rfl, if_neg e1, if_neg e2, if_pos (u8_inj.1 e3)], ho2⟩
  have e3' : ¬ a.2.getD 0 0 = 127 := fun e => e3 (u8_inj.2 e)
  conv => whnf
  refine ⟨0, _, rfl, by decide, rfl, ?_⟩
  conv => whnf
  refine ⟨_, h0 _ _ (by kernel_rfl), ?_⟩
  conv => whnf
  have fin : ¬ (224 ≤ (a.2.getD 0 0).toNat ∧ (a.2.getD 0 0).toNat ≤ 239) → kindA a = if a.2 = [255, 255, 255, 255, 0, 0, 0, 0, 0, 0, 0, 0, 0, 0, 0, 0] then 4 else 5 := fun e => by unfold kindA; rw [hv, if_pos rfl, if_neg e1, if_neg e2, if_neg e3', if_neg e]
  refine VIf.dec (fun e4 => ?_) (fun e4 => ?_)
  · conv => whnf
    refine ⟨0, _, rfl, by decide, rfl, ?_⟩
    conv => whnf
    refine ⟨_, h0 _ _ (by kernel_rfl), ?_⟩
    conv => whnf
    refine VIf.dec (fun e5 => ?_) (fun e5 => ?_)
    · conv => whnf
      exact ⟨by unfold kindA; rw [hv, if_pos rfl, if_neg e1, if_neg e2, if_neg e3', if_pos (by omega)], ho2⟩
    · conv => whnf
      refine ⟨_, hB _ _ (by kernel_rfl) (by kernel_rfl), ?_⟩
      conv => whnf
      refine ⟨_, eql_b16 (y := [255, 255, 255, 255, 0, 0, 0, 0, 0, 0, 0, 0, 0, 0, 0, 0]) h16 rfl _ _, ?_⟩
      conv => whnf
      refine VIf.dec (fun e6 => ?_) (fun e6 => ?_)
      · conv => whnf
        exact ⟨by rw [fin (by omega), if_pos e6], ho2⟩
      · conv => whnf
        exact ⟨by rw [fin (by omega), if_neg e6], ho2⟩
  · conv => whnf
    refine ⟨_, hB _ _ (by kernel_rfl) (by kernel_rfl), ?_⟩
    conv => whnf
    refine ⟨_, eql_b16 (y := [255, 255, 255, 255, 0, 0, 0, 0, 0, 0, 0, 0, 0, 0, 0, 0]) h16 rfl _ _, ?_⟩
    conv => whnf
    refine VIf.dec (fun e6 => ?_) (fun e6 => ?_)
    · conv => whnf
      exact ⟨by rw [fin (by omega), if_pos e6], ho2⟩
    · conv => whnf
      exact ⟨by rw [fin (by omega), if_neg e6], ho2⟩

/-- How many bits of byte i are kept. -/
def keepN (n : Int) (i : Nat) : Nat := (min 8 (max 0 (n - 8 * i))).toNat
theorem keepN_le (n : Int) (i : Nat) : keepN n i ≤ 8 := by unfold keepN; omega
def mskB (n : Int) (i : Nat) : UInt8 := UInt8.ofNat (65280 / 2 ^ keepN n i)
def mskL (n : Int) (l : List UInt8) : List UInt8 := l.mapIdx fun i c => c &&& mskB n i
def mskTo (n : Int) (k : Nat) (l : List UInt8) : List UInt8 := l.mapIdx fun i c => if i < k then c &&& mskB n i else c
theorem mskTo_zero (n : Int) (l : List UInt8) : mskTo n 0 l = l := by
  unfold mskTo
  apply List.ext_getElem <;> simp
theorem mskTo_all (n : Int) (l : List UInt8) (k : Nat) (h : l.length ≤ k) : mskTo n k l = mskL n l := by
  unfold mskTo mskL
  apply List.ext_getElem
  · simp
  · intro i h1 h2
    have : i < l.length := by simpa using h2
    simp only [List.getElem_mapIdx]
    rw [if_pos (by omega)]
theorem mskTo_succ (n : Int) (l : List UInt8) (k : Nat) (h : k < l.length) : mskTo n (k + 1) l = (mskTo n k l).set k (l[k] &&& mskB n k) := by
  unfold mskTo
  apply List.ext_getElem
  · simp
  · intro i h1 h2
    simp only [List.getElem_mapIdx, List.getElem_set]
    by_cases e : k = i
    · subst e
      simp
    · rw [if_neg e]
      by_cases h3 : i < k
      · rw [if_pos (by omega), if_pos h3]
      · rw [if_neg (by omega), if_neg h3]
theorem mskTo_len (n : Int) (k : Nat) (l : List UInt8) : (mskTo n k l).length = l.length := by simp [mskTo]
theorem mskL_len (n : Int) (l : List UInt8) : (mskL n l).length = l.length := by simp [mskL]
theorem mskTo_get (n : Int) (l : List UInt8) (k : Nat) (h : k < l.length) : (mskTo n k l)[k]'(by rw [mskTo_len]; exact h) = l[k] := by simp [mskTo]
def zeroA : Ad := (0, List.replicate 16 0)
theorem zeroA_ok : okAd zeroA := ⟨by decide, by decide, rfl⟩
/-- The address with just its first bits; else none. -/
def maskOk (a : Ad) (n : Int) : Bool := decide (bitsA a ≠ 0 ∧ 0 ≤ n ∧ n ≤ bitsA a)
def maskA (a : Ad) (n : Int) : Ad := if maskOk a n = true then (a.1, mskL n a.2) else zeroA
def maskE (a : Ad) (n : Int) : Int := if maskOk a n = true then 0 else 1
theorem maskA_ok {a : Ad} (h : okAd a) (n : Int) : okAd (maskA a n) := by
  unfold maskA
  split
  · exact ⟨h.1, h.2.1, by rw [mskL_len]; exact h.2.2⟩
  · exact zeroA_ok
theorem one_adC (a : Ad) : ∀ u ∈ adC a, isOne u = true := by
  intro u hu
  rcases List.mem_cons.1 hu with rfl | hu
  · rfl
  · obtain ⟨c, _, rfl⟩ := List.mem_map.1 hu
    rfl
theorem mask_byte (c : UInt8) {n : Int} {i : Nat} (hn : 0 ≤ n) (hn2 : n ≤ 128) (hi : i < 16) :
    andI .u8 (c.toNat : Int) (IntKind.u8.wrap (65280 / pw ((keepN n i : Nat) : Int) .u64)) = ((c &&& mskB n i).toNat : Int) := by
  have hk := keepN_le n i
  rw [pw_lit _ _ (by show keepN n i ≤ 64; omega)]
  have e1 : (65280 : Int) / 2 ^ keepN n i = ((65280 / 2 ^ keepN n i : Nat) : Int) := by simp
  have e2 : IntKind.u8.wrap ((65280 / 2 ^ keepN n i : Nat) : Int) = ((mskB n i).toNat : Int) := by
    rw [wr8]
    simp only [mskB, UInt8.toNat_ofNat']
    omega
  rw [e1, e2, andI_nat .u8 _ _ (by have := u8_le c; simp only [maxN]; omega) (by have := u8_le (mskB n i); simp only [maxN]; omega), UInt8.toNat_and]
theorem adC_set {v : Int} {l : List UInt8} {k : Nat} {c : UInt8} : (adC (v, l)).set (1 + k) (u8 c) = adC (v, l.set k c) := by
  rw [Nat.add_comm]
  simp [adC]
set_option maxRecDepth 100000 in
theorem mask_does {w : World} {a : Ad} {n : Int} (h : okAd a) : Does Tryz.prog 102 [.agg ⟨adC a⟩, .int .i64 n] w (fun v w' => v = .tuple ⟨[.agg ⟨adC (maskA a n)⟩, .int .i64 (maskE a n)]⟩ ∧ Only [] w w') := by
  have h16 := h.2.2
  have hA := Blk.new w 24 ⟨adC a⟩
  have hZ : adC zeroA = .int .i64 0 :: List.replicate 16 (.int .u8 0) := by simp [adC, zeroA, u8]
  refine Does.enter (fn := Tryz.f102) (by kernel_rfl) rfl (by kernel_rfl) (by kernel_rfl) ?_
  conv => whnf
  refine ⟨_, Loads.all (hA.alloc _) (by kernel_rfl) (by rw [adC_len h]; kernel_rfl), ?_⟩
  conv => whnf
  refine (bits_does h).mono ?_
  rintro v w1 ⟨rfl, ho1⟩
  have hb1 := (hA.alloc (.cells ⟨adC zeroA⟩ 24)).only ho1 (by simp)
  have hR1 := (Blk.new (w.alloc (.cells ⟨adC a⟩ 24)) 24 ⟨adC zeroA⟩).only ho1 (by simp)
  have ho : Only [] w w1 := (((Only.refl [] w).alloc _).alloc _).t0 ho1
  have hne : w.heap.size ≠ (w.alloc (.cells ⟨adC a⟩ 24)).heap.size := by rw [World.size_alloc]; omega
  have hgt : w.heap.size ≤ (w.alloc (.cells ⟨adC a⟩ 24)).heap.size := by rw [World.size_alloc]; omega
  clear ho1 hA
  generalize (w.alloc (.cells ⟨adC a⟩ 24)).heap.size = g at *
  obtain ⟨w2, hst, hb2, ho2, -⟩ := Stores.blk (P := Tryz.prog) (t := 24) (o := 0) (cs := adC zeroA) (by kernel_rfl) hR1 (by decide) (one_adC _)
  rw [splice_all rfl] at hb2
  have ho3 : Only [] w w2 := ho.nw ho2 hgt
  conv => whnf
  refine VIf.eq (fun e0 => ?_) (fun e0 => ?_)
  · conv => whnf
    refine ⟨w2, hst, ?_⟩
    conv => whnf
    refine ⟨_, Loads.all hb2 (by kernel_rfl) (by kernel_rfl), ?_⟩
    have : maskOk a n = false := by unfold maskOk; simp [e0]
    refine ⟨?_, ho3⟩
    unfold maskA maskE
    rw [this]
    rfl
  conv => whnf
  refine VIf.dec (fun e1 => ?_) (fun e1 => ?_)
  · conv => whnf
    refine ⟨w2, hst, ?_⟩
    conv => whnf
    refine ⟨_, Loads.all hb2 (by kernel_rfl) (by kernel_rfl), ?_⟩
    have : maskOk a n = false := by unfold maskOk; simp; omega
    refine ⟨?_, ho3⟩
    unfold maskA maskE
    rw [this]
    rfl
  conv => whnf
  refine VIf.dec (fun e2 => ?_) (fun e2 => ?_)
  · conv => whnf
    refine ⟨w2, hst, ?_⟩
    conv => whnf
    refine ⟨_, Loads.all hb2 (by kernel_rfl) (by kernel_rfl), ?_⟩
    have : maskOk a n = false := by unfold maskOk; simp; omega
    refine ⟨?_, ho3⟩
    unfold maskA maskE
    rw [this]
    rfl
  clear hst hb2 ho2 ho3 w2
  have hok : maskOk a n = true := by unfold maskOk; simp; exact ⟨e0, by omega, by omega⟩
  have hn128 : n ≤ 128 := by have := bitsA_cases a; omega
  conv => whnf
  refine VLoop.inv (α := Nat) [(7, 9), (23, 43)] (fun i => [(23, .int .i64 i)]) (fun i wr => i ≤ 16 ∧ Only [] w wr ∧ Blk wr w.heap.size 24 ⟨adC (a.1, mskTo n i a.2)⟩ ∧ Blk wr g 24 ⟨adC zeroA⟩) (fun i => 16 - i) 0 (by kernel_rfl) ⟨rfl, trivial⟩ ⟨by decide, ho, by rw [mskTo_zero]; exact hb1, hR1⟩ ?_
  clear hb1 hR1 ho w1
  rintro i wr j ⟨hi, ho, hb1, hR1⟩
  conv => whnf
  refine VIf.dec (fun ht => ?_) (fun ht => ?_)
  · have hi16 : i < a.2.length := by omega
    have hlen : (adC (a.1, mskTo n i a.2)).length = 17 := by simp [adC, mskTo_len, h16]
    have hat : (adC (a.1, mskTo n i a.2))[1 + i]? = some (u8 a.2[i]) := by
      have := adC_at (a := (a.1, mskTo n i a.2)) (k := i) (by simp only [mskTo_len]; exact hi16)
      rw [this]
      simp only [mskTo_get n a.2 i hi16]
    have ekeep : min 8 (max 0 (IntKind.i64.wrap (n - IntKind.i64.wrap (8 * (i : Int))))) = ((keepN n i : Nat) : Int) := by
      rw [wi64, wi64]
      unfold keepN
      omega
    conv => whnf
    refine VDraw.tail 10 (by kernel_rfl) (by kernel_rfl) ?_
    conv => whnf
    refine ⟨i, 1 + i, rfl, by omega, p1 _ _, ?_⟩
    conv => whnf
    refine ⟨u8 a.2[i], fun w' hw' => Loads.one (by kernel_rfl) (by rw [hw']; exact hb1.drew.at hat), ?_⟩
    conv => whnf
    rw [ekeep]
    conv => whnf
    refine ⟨i, 1 + i, rfl, by omega, p1 _ _, ?_⟩
    have em := mask_byte a.2[i] (n := n) (i := i) (by omega) hn128 (by omega)
    have e65 : IntKind.u64.wrap 65280 = 65280 := by decide
    conv => whnf
    rw [em]
    refine ⟨_, Stores.one (by kernel_rfl) rfl (hb1.drew.at hat) (hb1.drew.frozen _), ?_⟩
    conv => whnf
    have hset : Blk (wr.drew.setCell ⟨w.heap.size, 1 + i, none⟩ (u8 (a.2[i] &&& mskB n i))) w.heap.size 24 ⟨adC (a.1, mskTo n (i + 1) a.2)⟩ := by
      have := hb1.drew.put (i := 1 + i) (u := u8 (a.2[i] &&& mskB n i))
      rwa [adC_set, ← mskTo_succ n a.2 i hi16] at this
    have ho2 : Only [] w (wr.drew.setCell ⟨w.heap.size, 1 + i, none⟩ (u8 (a.2[i] &&& mskB n i))) := ho.drew.put (.inr (Nat.le_refl _))
    exact ⟨i + 1, ⟨congrArg (Value.int IntKind.i64) (by rw [wi64]; omega), trivial⟩, ⟨by omega, ho2, hset, hR1.drew.far (by simpa using hne.symm) _⟩, by show 16 - (i + 1) < 16 - i; omega⟩
  · obtain rfl : i = 16 := by omega
    rw [mskTo_all n a.2 16 (by omega)] at hb1
    have hL : okAd (a.1, mskL n a.2) := ⟨h.1, h.2.1, by rw [mskL_len]; exact h16⟩
    conv => whnf
    refine ⟨_, Loads.all hb1 (by kernel_rfl) (by rw [adC_len hL]; kernel_rfl), ?_⟩
    obtain ⟨w2, hst, hb2, ho2, -⟩ := Stores.blk (P := Tryz.prog) (t := 24) (o := 0) (cs := adC (a.1, mskL n a.2)) (by rw [adC_len hL]; kernel_rfl) hR1 (by rw [adC_len hL, adC_len zeroA_ok]; decide) (one_adC _)
    rw [splice_all (by rw [adC_len hL, adC_len zeroA_ok])] at hb2
    conv => whnf
    refine ⟨w2, hst, ?_⟩
    conv => whnf
    refine ⟨_, Loads.all hb2 (by kernel_rfl) (by rw [adC_len hL]; kernel_rfl), ?_⟩
    conv => whnf
    refine ⟨?_, ho.nw ho2 hgt⟩
    unfold maskA maskE
    rw [hok]
    rfl
/-- Does an address lie in a net of so many bits? -/
def withinA (a net : Ad) (n : Int) : Bool := maskOk a n && maskOk net n && decide (maskA a n = maskA net n)
set_option maxRecDepth 100000 in
theorem within_does {w : World} {a b : Ad} {n : Int} (ha : okAd a) (hb : okAd b) : Does Tryz.prog 104 [.agg ⟨adC a⟩, .agg ⟨adC b⟩, .int .i64 n] w (fun v w' => v = .bool (withinA a b n) ∧ Only [] w w') := by
  have hA := Blk.new w 24 ⟨adC a⟩
  have hB := Blk.new (w.alloc (.cells ⟨adC a⟩ 24)) 24 ⟨adC b⟩
  refine Does.enter (fn := Tryz.f104) (by kernel_rfl) rfl (by kernel_rfl) (by kernel_rfl) ?_
  conv => whnf
  refine ⟨_, Loads.all (hA.alloc _) (by kernel_rfl) (by rw [adC_len ha]; kernel_rfl), ?_⟩
  conv => whnf
  refine (mask_does ha).mono ?_
  rintro v w1 ⟨rfl, ho1⟩
  conv => whnf
  have l17 : ∀ {x : Ad}, okAd x → sizeOfT Tryz.prog 24 = some (adC x).length := fun hx => by rw [adC_len hx]; kernel_rfl
  have hMa := maskA_ok ha n
  have hMb := maskA_ok hb n
  have hB1 := hB.only ho1 (by simp)
  have hw1 : Only [] w w1 := (((Only.refl [] w).alloc _).alloc _).t0 ho1
  refine vStore.fresh (l17 hMa) (by rw [adC_len hMa]; rfl) (one_adC _) (fun w2 hb2 ho2 _ => ?_)
  have hB2 := hB1.only ho2 (by simp)
  conv => whnf
  refine ⟨_, Loads.all hB2 (by kernel_rfl) (l17 hb), ?_⟩
  conv => whnf
  refine (mask_does hb).mono ?_
  rintro v w3 ⟨rfl, ho3⟩
  have hb3 := hb2.only ho3 (by simp)
  conv => whnf
  refine vStore.fresh (l17 hMb) (by rw [adC_len hMb]; rfl) (one_adC _) (fun w4 hb4 ho4 _ => ?_)
  have hb5 := hb3.only ho4 (by simp)
  have how : Only [] w w4 := ((hw1.t0 ho2).t0 ho3).t0 ho4
  have e1 : maskE a n = 0 ↔ maskOk a n = true := by unfold maskE; split <;> simp_all
  have e2 : maskE b n = 0 ↔ maskOk b n = true := by unfold maskE; split <;> simp_all
  conv => whnf
  refine VIf.eq (fun h1 => ?_) (fun h1 => ?_)
  · rw [e1] at h1
    conv => whnf
    refine VIf.eq (fun h2 => ?_) (fun h2 => ?_)
    · rw [e2] at h2
      conv => whnf
      refine ⟨_, Loads.all hb5 (by kernel_rfl) (l17 hMa), ?_⟩
      conv => whnf
      refine ⟨_, Loads.all hb4 (by kernel_rfl) (l17 hMb), ?_⟩
      conv => whnf
      refine ⟨_, eql_ad hMa hMb _ _, ?_⟩
      conv => whnf
      refine ⟨?_, how⟩
      unfold withinA
      rw [h1, h2]
      rfl
    · rw [ne_eq, e2] at h2
      conv => whnf
      refine ⟨?_, how⟩
      unfold withinA
      simp [h2]
  · rw [ne_eq, e1] at h1
    conv => whnf
    refine ⟨?_, how⟩
    unfold withinA
    simp [h1]
end Go.Proofs.YtofomopdaponbaaGreatDoor
/-
  A packet (package api's Packet) as cells; ip4: within, four, placed, Right, Head.
-/
namespace Go.Proofs.YtofomopdaponbaaGreatDoor
open Go.RowKit
set_option linter.unusedVariables false
set_option linter.unusedSimpArgs false

structure Pk where
  v : Int
  tos : Int
  flow : Int
  src : Ad
  dst : Ad
  proto : Int
  ttl : Int
  id : Int
  df : Bool
  more : Bool
  frag : Bool
  off : Int
  opts : List UInt8
  data : List UInt8
/-- Where a slice lies: its address, its capacity. -/
abbrev At := Option Addr × Nat
def pkH (p : Pk) : List Value := [.int .i64 p.v, .int .i64 p.tos, .int .i64 p.flow]
def pkT (p : Pk) (O D : At) : List Value := [.int .i64 p.proto, .int .i64 p.ttl, .int .u32 p.id, .bool p.df, .bool p.more, .bool p.frag, .int .i64 p.off, .slice O.1 p.opts.length O.2, .slice D.1 p.data.length D.2]
def pkC (p : Pk) (O D : At) : List Value := pkH p ++ (adC p.src ++ (adC p.dst ++ pkT p O D))
/-- The numbers of a packet are Go's own. -/
structure okPk (p : Pk) : Prop where
  src : okAd p.src
  dst : okAd p.dst
  off : -9223372036854775808 ≤ p.off ∧ p.off ≤ 9223372036854775807
theorem pk_len {p : Pk} {O D : At} (h : okPk p) : (pkC p O D).length = 46 := by simp [pkC, pkH, pkT, adC_len h.src, adC_len h.dst]
theorem pk_tail {p : Pk} {O D : At} (h : okPk p) (j : Nat) : (pkC p O D)[37 + j]? = (pkT p O D)[j]? := by
  have e1 := adC_len h.src
  have e2 := adC_len h.dst
  unfold pkC
  rw [List.getElem?_append_right (by simp [pkH]; omega), List.getElem?_append_right (by simp [pkH, e1]; omega), List.getElem?_append_right (by simp [pkH, e1, e2]; omega)]
  congr 1
  simp [pkH, e1, e2]
  omega
theorem pk_head {p : Pk} {O D : At} (j : Nat) (hj : j < 3) : (pkC p O D)[j]? = (pkH p)[j]? := by
  unfold pkC
  rw [List.getElem?_append_left (by simpa [pkH] using hj)]
section
variable {w : World} {g : Nat} {t : TypeId} {p : Pk} {O D : At}
theorem Blk.pkV (h : Blk w g t ⟨pkC p O D⟩) : w.cell? ⟨g, 0, none⟩ = some (.int .i64 p.v) := h.at ((pk_head 0 (by decide)).trans rfl)
theorem Blk.pkTos (h : Blk w g t ⟨pkC p O D⟩) : w.cell? ⟨g, 1, none⟩ = some (.int .i64 p.tos) := h.at ((pk_head 1 (by decide)).trans rfl)
theorem Blk.pkFlow (h : Blk w g t ⟨pkC p O D⟩) : w.cell? ⟨g, 2, none⟩ = some (.int .i64 p.flow) := h.at ((pk_head 2 (by decide)).trans rfl)
theorem Blk.pkProto (h : Blk w g t ⟨pkC p O D⟩) (ok : okPk p) : w.cell? ⟨g, 37, none⟩ = some (.int .i64 p.proto) := h.at ((pk_tail ok 0).trans rfl)
theorem Blk.pkTtl (h : Blk w g t ⟨pkC p O D⟩) (ok : okPk p) : w.cell? ⟨g, 38, none⟩ = some (.int .i64 p.ttl) := h.at ((pk_tail ok 1).trans rfl)
theorem Blk.pkId (h : Blk w g t ⟨pkC p O D⟩) (ok : okPk p) : w.cell? ⟨g, 39, none⟩ = some (.int .u32 p.id) := h.at ((pk_tail ok 2).trans rfl)
theorem Blk.pkDf (h : Blk w g t ⟨pkC p O D⟩) (ok : okPk p) : w.cell? ⟨g, 40, none⟩ = some (.bool p.df) := h.at ((pk_tail ok 3).trans rfl)
theorem Blk.pkMore (h : Blk w g t ⟨pkC p O D⟩) (ok : okPk p) : w.cell? ⟨g, 41, none⟩ = some (.bool p.more) := h.at ((pk_tail ok 4).trans rfl)
theorem Blk.pkFrag (h : Blk w g t ⟨pkC p O D⟩) (ok : okPk p) : w.cell? ⟨g, 42, none⟩ = some (.bool p.frag) := h.at ((pk_tail ok 5).trans rfl)
theorem Blk.pkOff (h : Blk w g t ⟨pkC p O D⟩) (ok : okPk p) : w.cell? ⟨g, 43, none⟩ = some (.int .i64 p.off) := h.at ((pk_tail ok 6).trans rfl)
theorem Blk.pkOpts (h : Blk w g t ⟨pkC p O D⟩) (ok : okPk p) : w.cell? ⟨g, 44, none⟩ = some (.slice O.1 p.opts.length O.2) := h.at ((pk_tail ok 7).trans rfl)
theorem Blk.pkData (h : Blk w g t ⟨pkC p O D⟩) (ok : okPk p) : w.cell? ⟨g, 45, none⟩ = some (.slice D.1 p.data.length D.2) := h.at ((pk_tail ok 8).trans rfl)
theorem Blk.pkSrc (h : Blk w g t ⟨pkC p O D⟩) (ok : okPk p) : Loads Tryz.prog 24 ⟨g, 3, none⟩ w (.agg ⟨adC p.src⟩) := Loads.seg (ps := pkH p) h rfl (by kernel_rfl) (by rw [adC_len ok.src]; kernel_rfl)
theorem Blk.pkDst (h : Blk w g t ⟨pkC p O D⟩) (ok : okPk p) : Loads Tryz.prog 24 ⟨g, 20, none⟩ w (.agg ⟨adC p.dst⟩) := by
  have h2 : Blk w g t ⟨(pkH p ++ adC p.src) ++ (adC p.dst ++ pkT p O D)⟩ := by
    rw [List.append_assoc]
    exact h
  exact Loads.seg h2 (by simp [pkH, adC_len ok.src]) (by kernel_rfl) (by rw [adC_len ok.dst]; kernel_rfl)
theorem Blk.pkAll (h : Blk w g t ⟨pkC p O D⟩) (ok : okPk p) : Loads Tryz.prog 56 ⟨g, 0, none⟩ w (.agg ⟨pkC p O D⟩) := Loads.all h (by kernel_rfl) (by rw [pk_len ok]; kernel_rfl)
end

def withinI (n most : Int) : Bool := decide (n ≥ 0) && decide (n ≤ most)
set_option maxRecDepth 100000 in
theorem withinI_does {w : World} {n m : Int} : Does Tryz.prog 149 [.int .i64 n, .int .i64 m] w (fun v w' => v = .bool (withinI n m) ∧ w = w') := by
  refine Does.enter (fn := Tryz.f149) (by kernel_rfl) rfl (by kernel_rfl) (by kernel_rfl) ?_
  conv => whnf
  refine VIf.dec (fun h => ?_) (fun h => ?_)
  · conv => whnf
    exact ⟨by simp [withinI, h], rfl⟩
  · conv => whnf
    exact ⟨by simp [withinI, h], rfl⟩
def fourA (a : Ad) : Bool := decide (a.1 = 4) && validA a
set_option maxRecDepth 100000 in
theorem four_does {w : World} {a : Ad} (h : okAd a) : Does Tryz.prog 194 [.agg ⟨adC a⟩] w (fun v w' => v = .bool (fourA a) ∧ Only [] w w') := by
  have hA := Only.alloc (Only.refl [] w) (.cells ⟨adC a⟩ 24)
  have hb := Blk.new w 24 ⟨adC a⟩
  refine Does.enter (fn := Tryz.f194) (by kernel_rfl) rfl (by kernel_rfl) (by kernel_rfl) ?_
  conv => whnf
  refine ⟨_, Loads.one (by kernel_rfl) (hb.at (i := 0) rfl), ?_⟩
  conv => whnf
  refine VIf.eq (fun e => ?_) (fun e => ?_)
  · conv => whnf
    refine ⟨_, Loads.all hb (by kernel_rfl) (by rw [adC_len h]; kernel_rfl), ?_⟩
    conv => whnf
    refine (valid_does h).mono ?_
    rintro v w1 ⟨rfl, ho⟩
    conv => whnf
    exact ⟨by simp [fourA, e], hA.t0 ho⟩
  · conv => whnf
    exact ⟨by simp [fourA, e], hA⟩
/-- May a packet's data stand where it is said to? -/
def placedP (p : Pk) : Bool :=
  withinI p.off 65528 && decide (p.off % 8 = 0) && decide (p.off + p.data.length ≤ 65535) && !(p.more && (decide (p.data.length = 0) || decide (p.data.length % 8 ≠ 0))) && (decide (p.off = 0) || decide (0 < p.data.length))
set_option maxRecDepth 100000 in
theorem placed_does {w : World} {p : Pk} {O D : At} (h : okPk p) (hl : p.data.length ≤ 140737488355328) : Does Tryz.prog 71 [.agg ⟨pkC p O D⟩] w (fun v w' => v = .bool (placedP p) ∧ Only [] w w') := by
  have hA := Only.alloc (Only.refl [] w) (.cells ⟨pkC p O D⟩ 56)
  have hb := Blk.new w 56 ⟨pkC p O D⟩
  refine Does.enter (fn := Tryz.f71) (by kernel_rfl) rfl (by kernel_rfl) (by kernel_rfl) ?_
  conv => whnf
  refine ⟨_, Loads.one (by kernel_rfl) (hb.pkData h), ?_⟩
  conv => whnf
  refine ⟨_, Loads.one (by kernel_rfl) (hb.pkOff h), ?_⟩
  conv => whnf
  refine withinI_does.mono ?_
  rintro v w1 ⟨rfl, rfl⟩
  refine splitB.abs fun N0 hN => ?_
  conv => whnf
  refine VIf.not (VIf.of (b := withinI p.off 65528) (fun h1 => ?_) (fun h1 => ?_))
  rotate_left
  · conv => whnf
    refine hN _ _ ?_
    conv => whnf
    exact ⟨by simp [placedP, h1], hA⟩
  have hin : 0 ≤ p.off ∧ p.off ≤ 65528 := by simpa [withinI] using h1
  have e2 : p.off.tmod 8 = p.off % 8 := Int.tmod_eq_emod_of_nonneg hin.1
  have e3 : IntKind.i64.wrap (p.off + (p.data.length : Int)) = p.off + (p.data.length : Int) := by rw [wi64]; omega
  have e4 : (p.data.length : Int).tmod 8 = ((p.data.length % 8 : Nat) : Int) := by rw [Int.tmod_eq_emod_of_nonneg (by omega)]; omega
  conv => whnf
  refine ⟨_, Loads.one (by kernel_rfl) (hb.pkOff h), ?_⟩
  conv => whnf
  refine VIf.ne (fun h2 => ?_) (fun h2 => ?_)
  · rw [e2] at h2
    conv => whnf
    refine hN _ _ ?_
    conv => whnf
    exact ⟨by simp [placedP, h2], hA⟩
  rw [e2] at h2
  conv => whnf
  refine ⟨_, Loads.one (by kernel_rfl) (hb.pkOff h), ?_⟩
  conv => whnf
  refine hN _ _ ?_
  conv => whnf
  rw [e3]
  refine VIf.dec (fun h3 => ?_) (fun h3 => ?_)
  · conv => whnf
    have h3' : ¬ p.off + (p.data.length : Int) ≤ 65535 := by omega
    exact ⟨by simp [placedP, h3'], hA⟩
  have h3' : p.off + (p.data.length : Int) ≤ 65535 := by omega
  refine vc.abs fun N1 hN1 => ?_
  conv => whnf
  refine ⟨_, Loads.one (by kernel_rfl) (hb.pkMore h), ?_⟩
  conv => whnf
  refine VIf.of (b := p.more) (fun hm => ?_) (fun hm => ?_)
  · conv => whnf
    refine VIf.eq (fun h4 => ?_) (fun h4 => ?_)
    · have h4 : p.data.length = 0 := by omega
      conv => whnf
      refine hN1 _ _ ?_
      conv => whnf
      exact ⟨by simp [placedP, hm, h4], hA⟩
    · have h4 : ¬ p.data.length = 0 := by omega
      conv => whnf
      refine hN1 _ _ ?_
      conv => whnf
      refine VIf.ne (fun h5 => ?_) (fun h5 => ?_)
      · rw [e4] at h5
        have h5 : ¬ p.data.length % 8 = 0 := by omega
        conv => whnf
        exact ⟨by simp [placedP, hm, h5], hA⟩
      · rw [e4] at h5
        have h5 : p.data.length % 8 = 0 := by omega
        conv => whnf
        refine ⟨_, Loads.one (by kernel_rfl) (hb.pkOff h), ?_⟩
        conv => whnf
        refine VIf.eq (fun h6 => ?_) (fun h6 => ?_)
        · conv => whnf
          exact ⟨by (have h7 : (p.data.length : Int) ≤ 65535 := (by omega)); (rw [h6] at h1); simp [placedP, h1, h7, hm, h4, h5, h6], hA⟩
        · conv => whnf
          exact ⟨by simp [placedP, h1, h2, h3', hm, h4, h5, h6], hA⟩
  · conv => whnf
    refine hN1 _ _ ?_
    conv => whnf
    refine ⟨_, Loads.one (by kernel_rfl) (hb.pkOff h), ?_⟩
    conv => whnf
    refine VIf.eq (fun h6 => ?_) (fun h6 => ?_)
    · conv => whnf
      exact ⟨by (have h7 : (p.data.length : Int) ≤ 65535 := (by omega)); (rw [h6] at h1); simp [placedP, h1, h7, hm, h6], hA⟩
    · conv => whnf
      exact ⟨by simp [placedP, h1, h2, h3', hm, h6], hA⟩
/-- Is a packet one? -/
def rightP (p : Pk) : Bool :=
  decide (p.v = 4) && decide (p.flow = 0) && !p.frag && decide (p.id ≤ 65535) && fourA p.src && fourA p.dst && withinI p.tos 255 && withinI p.proto 255 && withinI p.ttl 255 && placedP p && optsOk p.opts && decide (20 + p.opts.length + p.data.length ≤ 65535)
/-- The slices of a packet can be read. -/
structure Pks (w : World) (p : Pk) (O D : At) (B : Nat) : Prop where
  ok : okPk p
  opts : ∃ G, Bs w G O.1 p.opts.length p.opts ∧ ∀ k ∈ G, B ≤ k
  data : ∃ G, Bs w G D.1 p.data.length p.data ∧ ∀ k ∈ G, B ≤ k
  oc : p.opts.length ≤ O.2 ∧ O.2 ≤ 9223372036854775807
  dc : p.data.length ≤ D.2 ∧ D.2 ≤ 9223372036854775807
  ol : p.opts.length ≤ 140737488355328
  dl : p.data.length ≤ 140737488355328
theorem Pks.o {w w' : World} {p : Pk} {O D : At} {B : Nat} (h : Pks w p O D B) (ho : Only [] w w') : Pks w' p O D B :=
  ⟨h.ok, h.opts.elim fun G hG => ⟨G, hG.1.o ho, hG.2⟩, h.data.elim fun G hG => ⟨G, hG.1.o ho, hG.2⟩, h.oc, h.dc, h.ol, h.dl⟩
theorem Pks.far {w w' : World} {p : Pk} {O D : At} {B g : Nat} (h : Pks w p O D B) (ho : Only [g] w w') (hg : g < B) : Pks w' p O D B :=
  ⟨h.ok, h.opts.elim fun G hG => ⟨G, hG.1.only ho (fun k hk => by have := hG.2 k hk; simp; omega), hG.2⟩, h.data.elim fun G hG => ⟨G, hG.1.only ho (fun k hk => by have := hG.2 k hk; simp; omega), hG.2⟩, h.oc, h.dc, h.ol, h.dl⟩
theorem Pks.below {w : World} {p : Pk} {O D : At} {B B' : Nat} (h : Pks w p O D B) (hB : B' ≤ B) : Pks w p O D B' :=
  ⟨h.ok, h.opts.elim fun G hG => ⟨G, hG.1, fun k hk => Nat.le_trans hB (hG.2 k hk)⟩, h.data.elim fun G hG => ⟨G, hG.1, fun k hk => Nat.le_trans hB (hG.2 k hk)⟩, h.oc, h.dc, h.ol, h.dl⟩
theorem right_e {a b : Nat} (ha : a ≤ 140737488355328) (hb : b ≤ 140737488355328) : IntKind.i64.wrap (IntKind.i64.wrap (20 + (a : Int)) + (b : Int)) = 20 + (a : Int) + (b : Int) := by
  have h1 : IntKind.i64.wrap (20 + (a : Int)) = 20 + (a : Int) := by rw [wi64]; omega
  rw [h1, wi64]
  omega
theorem right_d (a b : Nat) : decide (20 + (a : Int) + (b : Int) ≤ 65535) = decide (20 + a + b ≤ 65535) := by
  rw [decide_eq_decide]
  omega
set_option maxHeartbeats 4000000 in
set_option maxRecDepth 100000 in
theorem right_does {w : World} {p : Pk} {O D : At} {B : Nat} (hp : Pks w p O D B) (hs : Shp w) : Does Tryz.prog 126 [.agg ⟨pkC p O D⟩] w (fun v w' => v = .bool (rightP p) ∧ Only [] w w') := by
  have h := hp.ok
  have hoc := hp.oc
  have hdc := hp.dc
  have hA := Only.alloc (Only.refl [] w) (.cells ⟨pkC p O D⟩ 56)
  have hb := Blk.new w 56 ⟨pkC p O D⟩
  refine Does.enter (fn := Tryz.f126) (by kernel_rfl) rfl (by kernel_rfl) (by kernel_rfl) ?_
  refine vc.abs fun N0 hN => ?_
  conv => whnf
  refine hN _ _ ?_
  have o0 := hA
  have b0 := hb
  have hz0 := hA.size
  refine vc.abs2 rfl fun N1 hN1 => ?_
  conv => whnf
  refine ⟨_, Loads.one (by kernel_rfl) (b0.pkV), ?_⟩
  conv => whnf
  refine VIf.ne (fun f1 => ?_) (fun f1 => ?_)
  · conv => whnf
    refine hN1 _ _ ?_
    conv => whnf
    exact ⟨by simp [rightP, f1], o0⟩
  conv => whnf
  refine ⟨_, Loads.one (by kernel_rfl) (b0.pkFlow), ?_⟩
  conv => whnf
  refine VIf.ne (fun f2 => ?_) (fun f2 => ?_)
  · conv => whnf
    refine hN1 _ _ ?_
    conv => whnf
    exact ⟨by simp [rightP, f1, f2], o0⟩
  conv => whnf
  refine ⟨_, Loads.one (by kernel_rfl) (b0.pkFrag h), ?_⟩
  conv => whnf
  refine VIf.of (b := p.frag) (fun f3 => ?_) (fun f3 => ?_)
  · conv => whnf
    refine hN1 _ _ ?_
    conv => whnf
    exact ⟨by simp [rightP, f1, f2, f3], o0⟩
  conv => whnf
  refine ⟨_, Loads.one (by kernel_rfl) (b0.pkId h), ?_⟩
  conv => whnf
  refine VIf.dec (fun f4 => ?_) (fun f4 => ?_)
  · have f4 : ¬ p.id ≤ 65535 := by omega
    conv => whnf
    refine hN1 _ _ ?_
    conv => whnf
    exact ⟨by simp [rightP, f1, f2, f3, f4], o0⟩
  have f4 : p.id ≤ 65535 := by omega
  conv => whnf
  refine ⟨_, b0.pkSrc h, ?_⟩
  conv => whnf
  refine (four_does h.src).mono ?_
  rintro v w1 ⟨rfl, q1⟩
  have o1 := o0.t0 q1
  have b1 := b0.only q1 (by simp)
  conv => whnf
  refine VIf.not (VIf.of (b := fourA p.src) (fun f5 => ?_) (fun f5 => ?_))
  rotate_left
  · conv => whnf
    refine hN1 _ _ ?_
    conv => whnf
    exact ⟨by simp [rightP, f1, f2, f3, f4, f5], o1⟩
  conv => whnf
  refine ⟨_, b1.pkDst h, ?_⟩
  conv => whnf
  refine (four_does h.dst).mono ?_
  rintro v w2 ⟨rfl, q2⟩
  have o2 := o1.t0 q2
  have b2 := b1.only q2 (by simp)
  conv => whnf
  refine hN1 _ _ ?_
  conv => whnf
  refine VIf.not (VIf.of (b := fourA p.dst) (fun f6 => ?_) (fun f6 => ?_))
  rotate_left
  · conv => whnf
    exact ⟨by simp [rightP, f1, f2, f3, f4, f5, f6], o2⟩
  refine vc.abs2 rfl fun N2 hN2 => ?_
  conv => whnf
  refine ⟨_, Loads.one (by kernel_rfl) (b2.pkTos), ?_⟩
  conv => whnf
  refine (withinI_does).mono ?_
  rintro v w' ⟨rfl, rfl⟩
  conv => whnf
  refine VIf.not (VIf.of (b := withinI p.tos 255) (fun f7 => ?_) (fun f7 => ?_))
  rotate_left
  · conv => whnf
    refine hN2 _ _ ?_
    conv => whnf
    exact ⟨by simp [rightP, f1, f2, f3, f4, f5, f6, f7], o2⟩
  conv => whnf
  refine ⟨_, Loads.one (by kernel_rfl) (b2.pkProto h), ?_⟩
  conv => whnf
  refine (withinI_does).mono ?_
  rintro v w' ⟨rfl, rfl⟩
  conv => whnf
  refine VIf.not (VIf.of (b := withinI p.proto 255) (fun f8 => ?_) (fun f8 => ?_))
  rotate_left
  · conv => whnf
    refine hN2 _ _ ?_
    conv => whnf
    exact ⟨by simp [rightP, f1, f2, f3, f4, f5, f6, f7, f8], o2⟩
  conv => whnf
  refine ⟨_, Loads.one (by kernel_rfl) (b2.pkTtl h), ?_⟩
  conv => whnf
  refine (withinI_does).mono ?_
  rintro v w' ⟨rfl, rfl⟩
  conv => whnf
  refine VIf.not (VIf.of (b := withinI p.ttl 255) (fun f9 => ?_) (fun f9 => ?_))
  rotate_left
  · conv => whnf
    refine hN2 _ _ ?_
    conv => whnf
    exact ⟨by simp [rightP, f1, f2, f3, f4, f5, f6, f7, f8, f9], o2⟩
  conv => whnf
  refine ⟨_, b2.pkAll h, ?_⟩
  conv => whnf
  refine (placed_does h hp.dl).mono ?_
  rintro v w3 ⟨rfl, q3⟩
  have o3 := o2.t0 q3
  have b3 := b2.only q3 (by simp)
  conv => whnf
  refine VIf.not (VIf.of (b := placedP p) (fun f10 => ?_) (fun f10 => ?_))
  rotate_left
  · conv => whnf
    refine hN2 _ _ ?_
    conv => whnf
    exact ⟨by simp [rightP, f1, f2, f3, f4, f5, f6, f7, f8, f9, f10], o3⟩
  conv => whnf
  refine ⟨_, Loads.one (by kernel_rfl) (b3.pkOpts h), ?_⟩
  conv => whnf
  obtain ⟨Go, hGo, -⟩ := (hp.o o3).opts
  refine (optsValid_does hGo (hs.o o3) hoc.1 (by omega)).mono ?_
  rintro v w4 ⟨rfl, q4⟩
  have o4 := o3.t0 q4
  have b4 := b3.only q4 (by simp)
  conv => whnf
  refine hN2 _ _ ?_
  conv => whnf
  refine VIf.not (VIf.of (b := optsOk p.opts) (fun f11 => ?_) (fun f11 => ?_))
  rotate_left
  · conv => whnf
    exact ⟨by simp [rightP, f1, f2, f3, f4, f5, f6, f7, f8, f9, f10, f11], o4⟩
  conv => whnf
  refine ⟨_, Loads.one (by kernel_rfl) (b4.pkOpts h), ?_⟩
  conv => whnf
  refine ⟨_, Loads.one (by kernel_rfl) (b4.pkData h), ?_⟩
  conv => whnf
  have e : IntKind.i64.wrap (IntKind.i64.wrap (20 + (p.opts.length : Int)) + (p.data.length : Int)) = 20 + (p.opts.length : Int) + (p.data.length : Int) := right_e hp.ol hp.dl
  refine ⟨congrArg Value.bool ?_, o4⟩
  rw [e]
  have e2 : decide (20 + (p.opts.length : Int) + (p.data.length : Int) ≤ 65535) = decide (20 + p.opts.length + p.data.length ≤ 65535) := right_d _ _
  rw [e2]
  simp [rightP, f1, f2, f3, f4, f5, f6, f7, f8, f9, f10, f11]
end Go.Proofs.YtofomopdaponbaaGreatDoor
