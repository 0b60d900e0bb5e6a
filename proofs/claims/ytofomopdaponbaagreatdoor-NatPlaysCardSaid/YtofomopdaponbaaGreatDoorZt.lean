/-
  The document's answer on addresses (mosaicref03): valid, bits, a bit.
-/
import Derived.Test.YtofomopdaponbaaGreatDoorZc
import Derived.Test.YtofomopdaponbaaGreatDoorZb
import Derived.Test.YtofomopdaponbaaGreatDoorYHe
namespace Go.Proofs.YtofomopdaponbaaGreatDoor
open Go.RowKit
set_option linter.unusedVariables false
set_option linter.unusedSimpArgs false

theorem validA_iff (a : Ad) : validA a = (decide (a.1 = 6) || (decide (a.1 = 4) && (a.2.drop 4).all (fun c => c == 0))) := by
  unfold validA bitsA
  by_cases h4 : a.1 = 4
  · rw [if_pos h4]
    rw [show decide (a.1 = 6) = false from decide_eq_false (by omega), decide_eq_true h4]
    cases h : (a.2.drop 4).all (fun c => c == 0)
    · simp
    · simp
  · rw [if_neg h4, decide_eq_false h4]
    by_cases h6 : a.1 = 6
    · rw [if_pos h6, decide_eq_true h6]
      rfl
    · rw [if_neg h6, decide_eq_false h6]
      rfl
set_option maxRecDepth 100000 in
theorem rvalid_does {w : World} {a : Ad} (h : okAd a) : Does Tryz.prog 172 [.agg ⟨adC a⟩] w (fun v w' => v = .bool (validA a) ∧ Only [] w w') := by
  have hb := Blk.new w 24 ⟨adC a⟩
  have ho : Only [] w (w.alloc (.cells ⟨adC a⟩ 24)) := (Only.refl [] w).alloc _
  have h16 := h.2.2
  refine Does.enter (fn := Tryz.f172) (by kernel_rfl) rfl (by kernel_rfl) (by kernel_rfl) ?_
  conv => whnf
  refine ⟨_, Loads.one (by kernel_rfl) (hb.at (i := 0) rfl), ?_⟩
  conv => whnf
  refine VIf.eq (fun h6 => ?_) (fun h6 => ?_)
  · conv => whnf
    exact ⟨congrArg Value.bool (by rw [validA_iff, decide_eq_true h6]; rfl), ho⟩
  conv => whnf
  refine VLoop.inv (α := Nat) [(2, 4), (7, 16)] (fun i => [(3, .int .i64 i)]) (fun i w' => w.alloc (.cells ⟨adC a⟩ 24) = w' ∧ 4 ≤ i ∧ i ≤ 16 ∧ ∀ k (hk : k < 16), 4 ≤ k → k < i → a.2[k]'(by omega) = 0) (fun i => 16 - i) 4 (by kernel_rfl) ⟨rfl, trivial⟩ ⟨rfl, by decide, by decide, fun k hk h1 h2 => by omega⟩ ?_
  rintro i wr j ⟨rfl, h4i, hi, hz⟩
  conv => whnf
  refine VIf.dec (fun ht => ?_) (fun ht => ?_)
  · have ht : (i : Int) < 16 := ht
    conv => whnf
    refine ⟨i, 1 + i, rfl, by omega, p1 _ _, ?_⟩
    conv => whnf
    refine ⟨u8 (a.2[i]'(by omega)), Loads.one (by kernel_rfl) (hb.at (adC_at (by omega))), ?_⟩
    conv => whnf
    refine VIf.ne (fun h0 => ?_) (fun h0 => ?_)
    · conv => whnf
      refine ⟨congrArg Value.bool ?_, ho⟩
      rw [validA_iff, decide_eq_false h6]
      have hall : (a.2.drop 4).all (fun c => c == 0) = false := by
        rw [Bool.eq_false_iff]
        intro hall
        have := List.all_eq_true.1 hall (a.2[i]'(by omega)) (by
          rw [List.mem_drop_iff_getElem]
          exact ⟨i - 4, by omega, by congr 1; omega⟩)
        simp at this
        rw [this] at h0
        exact h0 rfl
      rw [hall]
      simp
    · conv => whnf
      refine ⟨i + 1, ⟨congrArg (Value.int IntKind.i64) (by rw [wi64]; omega), trivial⟩, ⟨rfl, by omega, by omega, fun k hk h1 h2 => ?_⟩, by omega⟩
      by_cases e : k = i
      · subst e
        exact UInt8.toNat_inj.1 (by simpa using h0)
      · exact hz k hk h1 (by omega)
  · have ht : ¬ (i : Int) < 16 := ht
    conv => whnf
    refine ⟨_, Loads.one (by kernel_rfl) (hb.at (i := 0) rfl), ?_⟩
    conv => whnf
    refine ⟨congrArg Value.bool ?_, ho⟩
    rw [validA_iff, decide_eq_false h6]
    have hall : (a.2.drop 4).all (fun c => c == 0) = true := by
      refine List.all_eq_true.2 fun c hc => ?_
      obtain ⟨k, hk, rfl⟩ := List.mem_drop_iff_getElem.1 hc
      have := hz (4 + k) (by omega) (by omega) (by omega)
      simp [this]
    rw [hall]
    by_cases e4 : a.1 = 4
    · simp [e4]
    · simp [e4]
/-- How many bits the document gives an address. -/
def rbitsA (a : Ad) : Int := if a.1 = 4 then 32 else 128
set_option maxRecDepth 100000 in
theorem rbits_does {w : World} {a : Ad} (h : okAd a) : Does Tryz.prog 173 [.agg ⟨adC a⟩] w (fun v w' => v = .int .i64 (rbitsA a) ∧ Only [] w w') := by
  have hb := Blk.new w 24 ⟨adC a⟩
  have ho : Only [] w (w.alloc (.cells ⟨adC a⟩ 24)) := (Only.refl [] w).alloc _
  refine Does.enter (fn := Tryz.f173) (by kernel_rfl) rfl (by kernel_rfl) (by kernel_rfl) ?_
  conv => whnf
  refine ⟨_, Loads.one (by kernel_rfl) (hb.at (i := 0) rfl), ?_⟩
  conv => whnf
  refine VIf.eq (fun h4 => ?_) (fun h4 => ?_)
  · conv => whnf
    exact ⟨by unfold rbitsA; rw [if_pos h4], ho⟩
  · conv => whnf
    exact ⟨by unfold rbitsA; rw [if_neg h4], ho⟩
/-- A bit of an address, from the front. -/
def bitA (a : Ad) (n : Nat) : Nat := (a.2.getD (n / 8) 0).toNat / 2 ^ (7 - n % 8) % 2
set_option maxRecDepth 100000 in
theorem bit_does {w : World} {a : Ad} {n : Nat} (h : okAd a) (hn : n < 128) : Does Tryz.prog 174 [.agg ⟨adC a⟩, .int .i64 n] w (fun v w' => v = .int .u8 (bitA a n) ∧ Only [] w w') := by
  have hb := Blk.new w 24 ⟨adC a⟩
  have ho : Only [] w (w.alloc (.cells ⟨adC a⟩ 24)) := (Only.refl [] w).alloc _
  have h16 := h.2.2
  have e1 : (n : Int).tdiv 8 = ((n / 8 : Nat) : Int) := by rw [Int.tdiv_eq_ediv_of_nonneg (by omega)]; omega
  have e2 : (n : Int).tmod 8 = ((n % 8 : Nat) : Int) := by rw [Int.tmod_eq_emod_of_nonneg (by omega)]; omega
  refine Does.enter (fn := Tryz.f174) (by kernel_rfl) rfl (by kernel_rfl) (by kernel_rfl) ?_
  conv => whnf
  refine ⟨n / 8, 1 + n / 8, by rw [e1, wi64]; omega, by omega, p1 _ _, ?_⟩
  conv => whnf
  refine ⟨u8 (a.2[n / 8]'(by omega)), Loads.one (by kernel_rfl) (hb.at (adC_at (by omega))), ?_⟩
  conv => whnf
  have e3 : IntKind.i64.wrap (7 - (n : Int).tmod 8) = Int.ofNat (7 - n % 8) := by
    rw [e2, wi64]
    show _ = ((7 - n % 8 : Nat) : Int)
    omega
  rw [e3]
  conv => whnf
  refine ⟨congrArg (Value.int IntKind.u8) ?_, ho⟩
  have hpw : pw (Int.ofNat (7 - n % 8)) .u8 = ((2 ^ (7 - n % 8) : Nat) : Int) := by
    rw [Int.natCast_pow]
    exact pw_lit (7 - n % 8) .u8 (by show 7 - n % 8 ≤ 8; omega)
  have hc : a.2[n / 8].toNat ≤ 255 := by have := a.2[n / 8].toNat_lt; omega
  have hle : a.2[n / 8].toNat / 2 ^ (7 - n % 8) ≤ 255 := Nat.le_trans (Nat.div_le_self _ _) hc
  have hq : (a.2[n / 8].toNat : Int) / pw (Int.ofNat (7 - n % 8)) .u8 = ((a.2[n / 8].toNat / 2 ^ (7 - n % 8) : Nat) : Int) := by
    rw [hpw]
    rfl
  have hm := andI_mask .u8 ((a.2[n / 8].toNat / 2 ^ (7 - n % 8) : Nat) : Int) 1 (Int.natCast_nonneg _) (by show _ ≤ ((255 : Nat) : Int); exact Int.ofNat_le.2 hle) (by decide)
  rw [hq]
  refine (hm).trans ?_
  unfold bitA
  rw [show a.2.getD (n / 8) 0 = a.2[n / 8] by rw [List.getD_eq_getElem?_getD, List.getElem?_eq_getElem (by omega)]; rfl]
  generalize a.2[n / 8].toNat / 2 ^ (7 - n % 8) = q
  omega
end Go.Proofs.YtofomopdaponbaaGreatDoor
/-
  The document's answer on addresses (mosaicref03): within a net, a mask, a kind.
-/
namespace Go.Proofs.YtofomopdaponbaaGreatDoor
open Go.RowKit
set_option linter.unusedVariables false
set_option linter.unusedSimpArgs false

/-- The two agree in their first n bits, and have them. -/
def rwithinA (a b : Ad) (n : Int) : Bool := validA a && validA b && decide (a.1 = b.1) && decide (0 ≤ n) && decide (n ≤ rbitsA a) && decide (∀ i : Fin 128, (i.1 : Int) < n → bitA a i.1 = bitA b i.1)
set_option maxRecDepth 100000 in
theorem rwithin_does {w : World} {a b : Ad} {n : Int} (ha : okAd a) (hb : okAd b) : Does Tryz.prog 108 [.agg ⟨adC a⟩, .agg ⟨adC b⟩, .int .i64 n] w (fun v w' => v = .bool (rwithinA a b n) ∧ Only [] w w') := by
  have hA := (Blk.new w 24 ⟨adC a⟩).alloc (.cells ⟨adC b⟩ 24)
  have hB := Blk.new (w.alloc (.cells ⟨adC a⟩ 24)) 24 ⟨adC b⟩
  have ho0 := ((Only.refl [] w).alloc (.cells ⟨adC a⟩ 24)).alloc (.cells ⟨adC b⟩ 24)
  have l17 : ∀ {x : Ad}, okAd x → sizeOfT Tryz.prog 24 = some (adC x).length := fun hx => by rw [adC_len hx]; kernel_rfl
  refine Does.enter (fn := Tryz.f108) (by kernel_rfl) rfl (by kernel_rfl) (by kernel_rfl) ?_
  conv => whnf
  refine ⟨_, Loads.all hA (by kernel_rfl) (l17 ha), ?_⟩
  conv => whnf
  refine (rvalid_does ha).mono ?_
  rintro v w1 ⟨rfl, ho1⟩
  have hA1 := hA.only ho1 (by simp)
  have hB1 := hB.only ho1 (by simp)
  conv => whnf
  refine ⟨_, Loads.all hB1 (by kernel_rfl) (l17 hb), ?_⟩
  conv => whnf
  refine (rvalid_does hb).mono ?_
  rintro v w2 ⟨rfl, ho2⟩
  have hA2 := hA1.only ho2 (by simp)
  have hB2 := hB1.only ho2 (by simp)
  have how := (ho0.t0 ho1).t0 ho2
  refine splitB.abs fun N0 hN => ?_
  refine hN _ _ ?_
  cases hva : validA a
  · conv => whnf
    exact ⟨congrArg Value.bool (by unfold rwithinA; rw [hva]; rfl), how⟩
  cases hvb : validA b
  · conv => whnf
    exact ⟨congrArg Value.bool (by unfold rwithinA; rw [hva, hvb]; rfl), how⟩
  conv => whnf
  refine ⟨_, Loads.one (by kernel_rfl) (hA2.at (i := 0) rfl), ?_⟩
  conv => whnf
  refine ⟨_, Loads.one (by kernel_rfl) (hB2.at (i := 0) rfl), ?_⟩
  conv => whnf
  refine VIf.ne (fun h1 => ?_) (fun h1 => ?_)
  · conv => whnf
    exact ⟨congrArg Value.bool (by unfold rwithinA; rw [hva, hvb, decide_eq_false h1]; rfl), how⟩
  conv => whnf
  refine VIf.dec (fun h2 => ?_) (fun h2 => ?_)
  · have h2 : n < 0 := h2
    conv => whnf
    exact ⟨congrArg Value.bool (by unfold rwithinA; rw [hva, hvb, decide_eq_true h1, show decide (0 ≤ n) = false from decide_eq_false (by omega)]; rfl), how⟩
  have h2 : ¬ n < 0 := h2
  conv => whnf
  refine ⟨_, Loads.all hA2 (by kernel_rfl) (l17 ha), ?_⟩
  conv => whnf
  refine (rbits_does ha).mono ?_
  rintro v w3 ⟨rfl, ho3⟩
  conv => whnf
  have hA3 := hA2.only ho3 (by simp)
  have hB3 := hB2.only ho3 (by simp)
  have how3 := how.t0 ho3
  refine VIf.dec (fun h3 => ?_) (fun h3 => ?_)
  · have h3 : n > rbitsA a := h3
    conv => whnf
    exact ⟨congrArg Value.bool (by unfold rwithinA; rw [hva, hvb, decide_eq_true h1, show decide (n ≤ rbitsA a) = false from decide_eq_false (by omega)]; simp), how3⟩
  have h3 : ¬ n > rbitsA a := h3
  have hnb : n ≤ 128 := by unfold rbitsA at h3; split at h3 <;> omega
  conv => whnf
  refine VLoop.inv (α := Nat) [(6, 7), (9, 10), (37, 49)] (fun i => [(9, .int .i64 i)]) (fun i w' => Only [] w3 w' ∧ (i : Int) ≤ n ∧ ∀ k, k < i → bitA a k = bitA b k) (fun i => 128 - i) 0 (by kernel_rfl) ⟨rfl, trivial⟩ ⟨Only.refl _ _, by omega, fun k hk => by omega⟩ ?_
  rintro i wr j ⟨hwr, hi, hz⟩
  have hA4 := hA3.only hwr (by simp)
  have hB4 := hB3.only hwr (by simp)
  have how4 := how3.t0 hwr
  conv => whnf
  refine VIf.dec (fun ht => ?_) (fun ht => ?_)
  · have ht : (i : Int) < n := ht
    conv => whnf
    refine VDraw.held (fun w' => Only [] wr w') [0, 1, 3, 4, 2, 5, 6] (by kernel_rfl) (by kernel_rfl) ((Only.refl [] wr).drew) ?_
    conv => whnf
    refine ⟨_, fun w' hw' => Loads.all (hA4.only hw' (by simp)) (by kernel_rfl) (l17 ha), ?_⟩
    conv => whnf
    refine ⟨_, fun w' hw' => Loads.all (hB4.only hw' (by simp)) (by kernel_rfl) (l17 hb), ?_⟩
    conv => whnf
    refine (bit_does (n := i) ha (by omega)).mono ?_
    rintro v w5 ⟨rfl, ho5⟩
    have hw5 : Only [] wr w5 := ((Only.refl [] wr).drew).t0 ho5
    refine ⟨hw5, ?_⟩
    conv => whnf
    refine (bit_does (n := i) hb (by omega)).mono ?_
    rintro v w6 ⟨rfl, ho6⟩
    have hw6 : Only [] wr w6 := hw5.t0 ho6
    refine ⟨hw6, ?_⟩
    conv => whnf
    refine VIf.ne (fun h4 => ?_) (fun h4 => ?_)
    · conv => whnf
      refine ⟨congrArg Value.bool ?_, how4.t0 hw6⟩
      unfold rwithinA
      rw [show decide (∀ i : Fin 128, (i.1 : Int) < n → bitA a i.1 = bitA b i.1) = false from decide_eq_false (fun hall => h4 (by rw [hall ⟨i, by omega⟩ ht]))]
      simp
    · conv => whnf
      refine ⟨i + 1, ⟨congrArg (Value.int IntKind.i64) (by rw [wi64]; omega), trivial⟩, ⟨hwr.t0 hw6, by omega, fun k hk => ?_⟩, by omega⟩
      by_cases e : k = i
      · subst e
        have h4 : (bitA a k : Int) = bitA b k := h4
        omega
      · exact hz k (by omega)
  · have ht : ¬ (i : Int) < n := ht
    conv => whnf
    refine ⟨congrArg Value.bool ?_, how4⟩
    unfold rwithinA
    rw [hva, hvb, decide_eq_true h1, decide_eq_true (show 0 ≤ n by omega), decide_eq_true (show n ≤ rbitsA a by omega), decide_eq_true (show ∀ i : Fin 128, (i.1 : Int) < n → bitA a i.1 = bitA b i.1 from fun k hk => hz k.1 (by omega))]
    rfl
end Go.Proofs.YtofomopdaponbaaGreatDoor
/-
  The document's answer on addresses and the program's are one: within a net (plain).
-/
namespace Go.Proofs.YtofomopdaponbaaGreatDoor
open Go.RowKit
set_option linter.unusedVariables false
set_option linter.unusedSimpArgs false

theorem cut_tab : (List.range 9).all (fun k => (List.range 256).all fun x => Nat.beq (x &&& (65280 / 2 ^ k % 256)) (x / 2 ^ (8 - k) * 2 ^ (8 - k))) = true := by kernel_rfl
theorem cut_byte {k x : Nat} (hk : k ≤ 8) (hx : x < 256) : x &&& (65280 / 2 ^ k % 256) = x / 2 ^ (8 - k) * 2 ^ (8 - k) := by
  have h := List.all_eq_true.1 (List.all_eq_true.1 cut_tab k (List.mem_range.2 (by omega))) x (List.mem_range.2 hx)
  exact Nat.eq_of_beq_eq_true h
theorem top_eq {c d : Nat} (hc : c < 256) (hd : d < 256) : ∀ k, k ≤ 8 → (c / 2 ^ (8 - k) = d / 2 ^ (8 - k) ↔ ∀ j, j < k → c / 2 ^ (7 - j) % 2 = d / 2 ^ (7 - j) % 2)
  | 0, _ => by
    rw [Nat.div_eq_of_lt (by simpa using hc), Nat.div_eq_of_lt (by simpa using hd)]
    simp
  | k + 1, hk => by
    have ih := top_eq hc hd k (by omega)
    have e : ∀ x : Nat, x / 2 ^ (8 - k) = x / 2 ^ (8 - (k + 1)) / 2 := fun x => by
      rw [show 8 - k = 8 - (k + 1) + 1 by omega, Nat.pow_succ, Nat.div_div_eq_div_mul]
    rw [e, e] at ih
    have e7 : 8 - (k + 1) = 7 - k := by omega
    rw [e7] at ih ⊢
    constructor
    · intro h j hj
      by_cases hjk : j = k
      · subst hjk
        rw [h]
      · exact ih.1 (by rw [h]) j (by omega)
    · intro h
      have h1 := ih.2 (fun j hj => h j (by omega))
      have h2 := h k (by omega)
      generalize c / 2 ^ (7 - k) = x at h1 h2 ⊢
      generalize d / 2 ^ (7 - k) = y at h1 h2 ⊢
      omega
theorem msk_eq {c d : UInt8} {n : Int} {i : Nat} : (c &&& mskB n i = d &&& mskB n i) ↔ ∀ j, j < keepN n i → c.toNat / 2 ^ (7 - j) % 2 = d.toNat / 2 ^ (7 - j) % 2 := by
  have hk := keepN_le n i
  have hc : c.toNat < 256 := c.toNat_lt
  have hd : d.toNat < 256 := d.toNat_lt
  rw [← top_eq hc hd _ hk]
  have e : ∀ x : UInt8, (x &&& mskB n i).toNat = x.toNat / 2 ^ (8 - keepN n i) * 2 ^ (8 - keepN n i) := fun x => by
    rw [UInt8.toNat_and, mskB, UInt8.toNat_ofNat']
    exact cut_byte hk x.toNat_lt
  have hp : 0 < 2 ^ (8 - keepN n i) := Nat.pow_pos (by decide)
  constructor
  · intro h
    have h2 := congrArg UInt8.toNat h
    rw [e, e] at h2
    exact Nat.eq_of_mul_eq_mul_right hp h2
  · intro h
    refine UInt8.toNat_inj.1 ?_
    rw [e, e, h]
theorem mskL_eq {n : Int} {l m : List UInt8} (hl : l.length = 16) (hm : m.length = 16) : mskL n l = mskL n m ↔ ∀ i : Fin 128, (i.1 : Int) < n → (l.getD (i.1 / 8) 0).toNat / 2 ^ (7 - i.1 % 8) % 2 = (m.getD (i.1 / 8) 0).toNat / 2 ^ (7 - i.1 % 8) % 2 := by
  have eg : ∀ (x : List UInt8) (k : Nat) (h : k < x.length), x.getD k 0 = x[k] := fun x k h => by rw [List.getD_eq_getElem?_getD, List.getElem?_eq_getElem h]; rfl
  constructor
  · intro h i hi
    have hb : l[i.1 / 8]'(by omega) &&& mskB n (i.1 / 8) = m[i.1 / 8]'(by omega) &&& mskB n (i.1 / 8) := by
      have h2 : (mskL n l)[i.1 / 8]'(by rw [mskL_len]; omega) = (mskL n m)[i.1 / 8]'(by rw [mskL_len]; omega) := by simp only [h]
      simpa [mskL] using h2
    rw [eg l _ (by omega), eg m _ (by omega)]
    exact msk_eq.1 hb (i.1 % 8) (by unfold keepN; omega)
  · intro h
    refine List.ext_getElem (by rw [mskL_len, mskL_len, hl, hm]) fun k h1 h2 => ?_
    rw [mskL_len] at h1 h2
    have em : ∀ (x : List UInt8) (hx : k < (mskL n x).length) (hx2 : k < x.length), (mskL n x)[k] = x[k] &&& mskB n k := fun x _ _ => by simp [mskL]
    rw [em l _ h1, em m _ h2]
    refine msk_eq.2 fun j hj => ?_
    have hj8 := Nat.lt_of_lt_of_le hj (keepN_le n k)
    have := h ⟨8 * k + j, by omega⟩ (by unfold keepN at hj; show ((8 * k + j : Nat) : Int) < n; omega)
    simp only [show (8 * k + j) / 8 = k by omega, show (8 * k + j) % 8 = j by omega] at this
    rwa [eg l _ (by omega), eg m _ (by omega)] at this
theorem rwithin_eq {a b : Ad} {n : Int} (ha : okAd a) (hb : okAd b) : rwithinA a b n = withinA a b n := by
  unfold rwithinA withinA
  have hv : ∀ x : Ad, maskOk x n = (validA x && decide (0 ≤ n) && decide (n ≤ bitsA x)) := fun x => by
    unfold maskOk validA
    rcases bitsA_cases x with h | h | h
    · rw [h]; simp
    · rw [h]; by_cases h0 : 0 ≤ n <;> by_cases h1 : n ≤ 32 <;> simp [h0, h1]
    · rw [h]; by_cases h0 : 0 ≤ n <;> by_cases h1 : n ≤ 128 <;> simp [h0, h1]
  have hbv : ∀ x : Ad, validA x = true → bitsA x = rbitsA x := fun x h => by
    unfold validA bitsA at h
    unfold bitsA rbitsA
    by_cases h4 : x.1 = 4
    · rw [if_pos h4] at h ⊢
      rw [if_pos h4]
      cases e : (x.2.drop 4).all (fun c => c == 0)
      · rw [e] at h
        simp at h
      · simp
    · rw [if_neg h4] at h ⊢
      rw [if_neg h4]
      by_cases h6 : x.1 = 6
      · rw [if_pos h6]
      · rw [if_neg h6] at h
        simp at h
  have hrb : ∀ x : Ad, a.1 = x.1 → rbitsA a = rbitsA x := fun x h => by unfold rbitsA; rw [h]
  rw [hv a, hv b]
  cases hva : validA a
  · simp
  cases hvb : validA b
  · simp
  rw [hbv a hva, hbv b hvb]
  by_cases h0 : 0 ≤ n
  rotate_left
  · simp [h0]
  by_cases h1 : a.1 = b.1
  rotate_left
  · have hma : maskA a n = maskA b n → ¬ (n ≤ rbitsA a ∧ n ≤ rbitsA b) := by
      intro h ⟨h2, h3⟩
      have oka : maskOk a n = true := by rw [hv a, hva, hbv a hva]; simp [h0, h2]
      have okb : maskOk b n = true := by rw [hv b, hvb, hbv b hvb]; simp [h0, h3]
      unfold maskA at h
      rw [if_pos oka, if_pos okb] at h
      exact h1 (Prod.mk.inj h).1
    by_cases h2 : n ≤ rbitsA a
    · by_cases h3 : n ≤ rbitsA b
      · have : ¬ maskA a n = maskA b n := fun h => hma h ⟨h2, h3⟩
        simp [h1, this]
      · simp [h1, h3]
    · simp [h1, h2]
  rw [← hrb b h1]
  by_cases h2 : n ≤ rbitsA a
  rotate_left
  · simp [h2]
  have oka : maskOk a n = true := by rw [hv a, hva, hbv a hva]; simp [h0, h2]
  have okb : maskOk b n = true := by rw [hv b, hvb, hbv b hvb, ← hrb b h1]; simp [h0, h2]
  have hm : (maskA a n = maskA b n) ↔ mskL n a.2 = mskL n b.2 := by
    unfold maskA
    rw [if_pos oka, if_pos okb]
    exact ⟨fun h => (Prod.mk.inj h).2, fun h => by rw [h1, h]⟩
  have hfin : decide (∀ i : Fin 128, (i.1 : Int) < n → bitA a i.1 = bitA b i.1) = decide (maskA a n = maskA b n) := by
    rw [decide_eq_decide, hm, mskL_eq ha.2.2 hb.2.2]
    rfl
  rw [hfin]
  simp [h0, h1, h2]
end Go.Proofs.YtofomopdaponbaaGreatDoor
/-
  The document's answer on addresses (mosaicref03): an address' kind.
-/
namespace Go.Proofs.YtofomopdaponbaaGreatDoor
open Go.RowKit
set_option linter.unusedVariables false
set_option linter.unusedSimpArgs false

theorem and4 (a b c d : UInt8) : (andI .u8 (andI .u8 (andI .u8 (a.toNat : Int) b.toNat) c.toNat) d.toNat = 255) ↔ (a = 255 ∧ b = 255 ∧ c = 255 ∧ d = 255) := by
  have ha := a.toNat_lt
  have hb := b.toNat_lt
  have hc := c.toNat_lt
  have hd := d.toNat_lt
  have h1 : a.toNat &&& b.toNat ≤ a.toNat := Nat.and_le_left
  have h2 : a.toNat &&& b.toNat ≤ b.toNat := Nat.and_le_right
  have h3 : a.toNat &&& b.toNat &&& c.toNat ≤ a.toNat &&& b.toNat := Nat.and_le_left
  have h4 : a.toNat &&& b.toNat &&& c.toNat ≤ c.toNat := Nat.and_le_right
  have h5 : a.toNat &&& b.toNat &&& c.toNat &&& d.toNat ≤ a.toNat &&& b.toNat &&& c.toNat := Nat.and_le_left
  have h6 : a.toNat &&& b.toNat &&& c.toNat &&& d.toNat ≤ d.toNat := Nat.and_le_right
  have e : maxN .u8 = 255 := rfl
  rw [andI_nat .u8 _ _ (by rw [e]; omega) (by rw [e]; omega), andI_nat .u8 _ _ (by rw [e]; omega) (by rw [e]; omega), andI_nat .u8 _ _ (by rw [e]; omega) (by rw [e]; omega)]
  constructor
  · intro h
    have h : a.toNat &&& b.toNat &&& c.toNat &&& d.toNat = 255 := by omega
    have k : ∀ x : UInt8, x.toNat = 255 → x = 255 := fun x hx => UInt8.toNat_inj.1 (by rw [hx]; rfl)
    exact ⟨k a (by omega), k b (by omega), k c (by omega), k d (by omega)⟩
  · rintro ⟨rfl, rfl, rfl, rfl⟩
    rfl
theorem kind4_all {a : Ad} (h : okAd a) (hv : validA a = true) (h6 : ¬ a.1 = 6) : (a.2 = [255, 255, 255, 255, 0, 0, 0, 0, 0, 0, 0, 0, 0, 0, 0, 0]) ↔ (a.2[0]'(by have := h.2.2; omega) = 255 ∧ a.2[1]'(by have := h.2.2; omega) = 255 ∧ a.2[2]'(by have := h.2.2; omega) = 255 ∧ a.2[3]'(by have := h.2.2; omega) = 255) := by
  have h16 := h.2.2
  rw [validA_iff, decide_eq_false h6] at hv
  simp only [Bool.false_or, Bool.and_eq_true] at hv
  obtain ⟨v, l⟩ := a
  match l, h16 with
  | [x0, x1, x2, x3, x4, x5, x6, x7, x8, x9, x10, x11, x12, x13, x14, x15], _ =>
    have hz := hv.2
    simp at hz
    simp [hz]
set_option maxRecDepth 100000 in
theorem rkind_does {w : World} {a : Ad} (h : okAd a) : Does Tryz.prog 175 [.agg ⟨adC a⟩] w (fun v w' => v = .int .i64 (kindA a) ∧ Only [] w w') := by
  have hb := Blk.new w 24 ⟨adC a⟩
  have ho : Only [] w (w.alloc (.cells ⟨adC a⟩ 24)) := (Only.refl [] w).alloc _
  have h16 := h.2.2
  refine Does.enter (fn := Tryz.f175) (by kernel_rfl) rfl (by kernel_rfl) (by kernel_rfl) ?_
  conv => whnf
  refine ⟨_, Loads.all hb (by kernel_rfl) (by rw [adC_len h]; kernel_rfl), ?_⟩
  conv => whnf
  refine (rvalid_does h).mono ?_
  rintro v w1 ⟨rfl, ho1⟩
  have hb1 := hb.only ho1 (by simp)
  have ho2 := ho.t0 ho1
  conv => whnf
  cases hv : validA a with
  | false =>
    conv => whnf
    exact ⟨by unfold kindA; rw [hv]; rfl, ho2⟩
  | true =>
  conv => whnf
  refine VLoop.inv (α := Nat) [(4, 5), (9, 20)] (fun i => [(4, .int .i64 i)]) (fun i w' => w1 = w' ∧ i ≤ 16 ∧ ∀ k (hk : k < 16), k < i → a.2[k]'(by omega) = 0) (fun i => 16 - i) 0 (by kernel_rfl) ⟨rfl, trivial⟩ ⟨rfl, by decide, fun k hk h1 => by omega⟩ ?_
  rintro i wr j ⟨rfl, hi, hz⟩
  conv => whnf
  refine VIf.dec (fun ht => ?_) (fun ht => ?_)
  rotate_left
  · have ht : ¬ (i : Int) < 16 := ht
    have hi16 : i = 16 := by omega
    subst hi16
    conv => whnf
    refine ⟨congrArg (Value.int IntKind.i64) ?_, ho2⟩
    unfold kindA
    rw [hv, if_pos rfl, if_pos (List.ext_getElem (by rw [h16]; rfl) (fun k h1 h2 => (hz k (by omega) (by omega)).trans (List.getElem_replicate ..).symm))]
  have ht : (i : Int) < 16 := ht
  conv => whnf
  refine ⟨i, 1 + i, rfl, by omega, p1 _ _, ?_⟩
  conv => whnf
  refine ⟨u8 (a.2[i]'(by omega)), Loads.one (by kernel_rfl) (hb1.at (adC_at (by omega))), ?_⟩
  conv => whnf
  refine VIf.eq (fun h0 => ?_) (fun h0 => ?_)
  · conv => whnf
    refine ⟨i + 1, ⟨congrArg (Value.int IntKind.i64) (by rw [wi64]; omega), trivial⟩, ⟨rfl, by omega, fun k hk h1 => ?_⟩, by omega⟩
    by_cases e : k = i
    · subst e
      exact UInt8.toNat_inj.1 (by simpa using h0)
    · exact hz k hk (by omega)
  have hne : a.2[i]'(by omega) ≠ 0 := fun e => h0 (by rw [e]; rfl)
  have e1 : ¬ a.2 = List.replicate 16 0 := fun e => hne (by
    have h2 : a.2[i]'(by omega) = (List.replicate 16 (0 : UInt8))[i]'(by rw [← e]; omega) := by congr 1
    exact h2.trans (List.getElem_replicate ..))
  conv => whnf
  refine VIf.eq (fun h1 => ?_) (fun h1 => ?_)
  · have h1 : (i : Int) = 16 := h1
    omega
  conv => whnf
  refine ⟨_, Loads.one (by kernel_rfl) (hb1.at (i := 0) rfl), ?_⟩
  conv => whnf
  refine VIf.eq (fun e2 => ?_) (fun e2 => ?_)
  · have e0 : a.2.getD 0 0 = a.2[0]'(by omega) := by rw [List.getD_eq_getElem?_getD, List.getElem?_eq_getElem (show 0 < a.2.length by omega)]; rfl
    have key : a.2 = List.replicate 15 0 ++ [1] ↔ i = 15 ∧ a.2[15]'(by omega) = 1 := by
      constructor
      · intro e
        have hg : ∀ k (hk : k < 16), a.2[k]'(by omega) = (List.replicate 15 (0 : UInt8) ++ [1])[k]'(by rw [← e]; omega) := fun k hk => by congr 1
        have h15 : a.2[15]'(by omega) = 1 := (hg 15 (by decide)).trans (by rfl)
        refine ⟨?_, h15⟩
        by_cases hi15 : i < 15
        · refine absurd ((hg i (by omega)).trans ?_) hne
          rw [List.getElem_append_left (by rw [List.length_replicate]; exact hi15)]
          exact List.getElem_replicate ..
        · omega
      · rintro ⟨rfl, e⟩
        refine List.ext_getElem (by rw [h16]; rfl) (fun k hk1 hk2 => ?_)
        by_cases hk15 : k < 15
        · rw [List.getElem_append_left (by rw [List.length_replicate]; exact hk15), List.getElem_replicate]
          exact hz k (by omega) hk15
        · obtain rfl : k = 15 := by omega
          rw [e]
          rfl
    conv => whnf
    refine VIf.eq (fun e3 => ?_) (fun e3 => ?_)
    · have e3 : (i : Int) = 15 := e3
      obtain rfl : i = 15 := by omega
      conv => whnf
      refine ⟨15, 16, rfl, by decide, rfl, ?_⟩
      conv => whnf
      refine ⟨u8 (a.2[15]'(by omega)), Loads.one (by kernel_rfl) (hb1.at (adC_at (k := 15) (by omega))), ?_⟩
      conv => whnf
      refine VIf.eq (fun e4 => ?_) (fun e4 => ?_)
      · have e4 : a.2[15]'(by omega) = 1 := UInt8.toNat_inj.1 (by have : ((a.2[15]'(by omega)).toNat : Int) = 1 := e4; simpa using (by omega : (a.2[15]'(by omega)).toNat = 1))
        conv => whnf
        exact ⟨congrArg (Value.int IntKind.i64) (by unfold kindA; rw [hv, if_pos rfl, if_neg e1, if_pos e2, if_pos (key.2 ⟨rfl, e4⟩)]), ho2⟩
      have e4 : ¬ a.2[15]'(by omega) = 1 := fun e => e4 (by rw [e]; rfl)
      have e5 : ¬ a.2 = List.replicate 15 0 ++ [1] := fun e => e4 (key.1 e).2
      conv => whnf
      refine ⟨0, 1, rfl, by decide, rfl, ?_⟩
      conv => whnf
      refine ⟨u8 (a.2[0]'(by omega)), Loads.one (by kernel_rfl) (hb1.at (adC_at (k := 0) (by omega))), ?_⟩
      conv => whnf
      refine VIf.eq (fun e6 => ?_) (fun e6 => ?_)
      · have e6 : a.2[0]'(by omega) = 255 := u8_inj.1 e6
        conv => whnf
        exact ⟨congrArg (Value.int IntKind.i64) (by unfold kindA; rw [hv, if_pos rfl, if_neg e1, if_pos e2, if_neg e5, e0, if_pos e6]), ho2⟩
      · have e6 : ¬ a.2[0]'(by omega) = 255 := fun e => e6 (u8_inj.2 e)
        conv => whnf
        exact ⟨congrArg (Value.int IntKind.i64) (by unfold kindA; rw [hv, if_pos rfl, if_neg e1, if_pos e2, if_neg e5, e0, if_neg e6]), ho2⟩
    have e5 : ¬ a.2 = List.replicate 15 0 ++ [1] := fun e => e3 (by rw [(key.1 e).1]; rfl)
    conv => whnf
    refine ⟨0, 1, rfl, by decide, rfl, ?_⟩
    conv => whnf
    refine ⟨u8 (a.2[0]'(by omega)), Loads.one (by kernel_rfl) (hb1.at (adC_at (k := 0) (by omega))), ?_⟩
    conv => whnf
    refine VIf.eq (fun e6 => ?_) (fun e6 => ?_)
    · have e6 : a.2[0]'(by omega) = 255 := u8_inj.1 e6
      conv => whnf
      exact ⟨congrArg (Value.int IntKind.i64) (by unfold kindA; rw [hv, if_pos rfl, if_neg e1, if_pos e2, if_neg e5, e0, if_pos e6]), ho2⟩
    · have e6 : ¬ a.2[0]'(by omega) = 255 := fun e => e6 (u8_inj.2 e)
      conv => whnf
      exact ⟨congrArg (Value.int IntKind.i64) (by unfold kindA; rw [hv, if_pos rfl, if_neg e1, if_pos e2, if_neg e5, e0, if_neg e6]), ho2⟩
  have e0 : a.2.getD 0 0 = a.2[0]'(by omega) := by rw [List.getD_eq_getElem?_getD, List.getElem?_eq_getElem (show 0 < a.2.length by omega)]; rfl
  have l0 : (a.2[0]'(by omega)).toNat < 256 := (a.2[0]'(by omega)).toNat_lt
  conv => whnf
  refine ⟨0, 1, rfl, by decide, rfl, ?_⟩
  conv => whnf
  refine ⟨u8 (a.2[0]'(by omega)), Loads.one (by kernel_rfl) (hb1.at (adC_at (k := 0) (by omega))), ?_⟩
  conv => whnf
  refine VIf.eq (fun e3 => ?_) (fun e3 => ?_)
  · have e3 : a.2[0]'(by omega) = 127 := u8_inj.1 e3
    conv => whnf
    exact ⟨congrArg (Value.int IntKind.i64) (by unfold kindA; rw [hv, if_pos rfl, if_neg e1, if_neg e2, e0, if_pos e3]), ho2⟩
  have e3 : ¬ a.2[0]'(by omega) = 127 := fun e => e3 (u8_inj.2 e)
  conv => whnf
  refine ⟨0, 1, rfl, by decide, rfl, ?_⟩
  conv => whnf
  refine ⟨u8 (a.2[0]'(by omega)), Loads.one (by kernel_rfl) (hb1.at (adC_at (k := 0) (by omega))), ?_⟩
  conv => whnf
  refine VIf.eq (fun e4 => ?_) (fun e4 => ?_)
  · rw [Int.tdiv_eq_ediv_of_nonneg (by omega), wr8] at e4
    conv => whnf
    exact ⟨congrArg (Value.int IntKind.i64) (by unfold kindA; rw [hv, if_pos rfl, if_neg e1, if_neg e2, e0, if_neg e3, if_pos (by omega)]), ho2⟩
  rw [Int.tdiv_eq_ediv_of_nonneg (by omega), wr8] at e4
  have e5 : ¬ (224 ≤ (a.2[0]'(by omega)).toNat ∧ (a.2[0]'(by omega)).toNat ≤ 239) := by omega
  conv => whnf
  refine ⟨0, 1, rfl, by decide, rfl, ?_⟩
  conv => whnf
  refine ⟨u8 (a.2[0]'(by omega)), Loads.one (by kernel_rfl) (hb1.at (adC_at (k := 0) (by omega))), ?_⟩
  conv => whnf
  refine ⟨1, 2, rfl, by decide, rfl, ?_⟩
  conv => whnf
  refine ⟨u8 (a.2[1]'(by omega)), Loads.one (by kernel_rfl) (hb1.at (adC_at (k := 1) (by omega))), ?_⟩
  conv => whnf
  refine ⟨2, 3, rfl, by decide, rfl, ?_⟩
  conv => whnf
  refine ⟨u8 (a.2[2]'(by omega)), Loads.one (by kernel_rfl) (hb1.at (adC_at (k := 2) (by omega))), ?_⟩
  conv => whnf
  refine ⟨3, 4, rfl, by decide, rfl, ?_⟩
  conv => whnf
  refine ⟨u8 (a.2[3]'(by omega)), Loads.one (by kernel_rfl) (hb1.at (adC_at (k := 3) (by omega))), ?_⟩
  conv => whnf
  have a4 := and4 (a.2[0]'(by omega)) (a.2[1]'(by omega)) (a.2[2]'(by omega)) (a.2[3]'(by omega))
  have k4 := kind4_all h hv e2
  refine VIf.eq (fun e6 => ?_) (fun e6 => ?_)
  · conv => whnf
    exact ⟨congrArg (Value.int IntKind.i64) (by unfold kindA; rw [hv, if_pos rfl, if_neg e1, if_neg e2, e0, if_neg e3, if_neg e5, if_pos (k4.2 (a4.1 e6))]), ho2⟩
  · conv => whnf
    exact ⟨congrArg (Value.int IntKind.i64) (by unfold kindA; rw [hv, if_pos rfl, if_neg e1, if_neg e2, e0, if_neg e3, if_neg e5, if_neg (fun e => e6 (a4.2 (k4.1 e)))]), ho2⟩
end Go.Proofs.YtofomopdaponbaaGreatDoor
/-
  The document's answer on addresses (mosaicref03): Mask answers what the program's does.
-/
namespace Go.Proofs.YtofomopdaponbaaGreatDoor
open Go.RowKit
set_option linter.unusedVariables false
set_option linter.unusedSimpArgs false

theorem add_tab : (List.range 8).all (fun j => (List.range 256).all fun c => Nat.beq ((c / 2 ^ (8 - j) * 2 ^ (8 - j)) ||| (c / 2 ^ (7 - j) % 2 * 2 ^ (7 - j))) (c / 2 ^ (7 - j) * 2 ^ (7 - j))) = true := by kernel_rfl
theorem add_byte {j c : Nat} (hj : j < 8) (hc : c < 256) : (c / 2 ^ (8 - j) * 2 ^ (8 - j)) ||| (c / 2 ^ (7 - j) % 2 * 2 ^ (7 - j)) = c / 2 ^ (7 - j) * 2 ^ (7 - j) := by
  have h := List.all_eq_true.1 (List.all_eq_true.1 add_tab j (List.mem_range.2 hj)) c (List.mem_range.2 hc)
  exact Nat.eq_of_beq_eq_true h
theorem msk_nat (c : UInt8) (n : Int) (i : Nat) : (c &&& mskB n i).toNat = c.toNat / 2 ^ (8 - keepN n i) * 2 ^ (8 - keepN n i) := by
  rw [UInt8.toNat_and, mskB, UInt8.toNat_ofNat']
  exact cut_byte (keepN_le n i) c.toNat_lt
theorem mskL_zero {l : List UInt8} (h : l.length = 16) : mskL ((0 : Nat) : Int) l = List.replicate 16 0 := by
  refine List.ext_getElem (by rw [mskL_len, h]; rfl) fun k h1 h2 => ?_
  rw [List.getElem_replicate]
  have e : (mskL ((0 : Nat) : Int) l)[k] = l[k]'(by rw [mskL_len] at h1; exact h1) &&& mskB ((0 : Nat) : Int) k := by simp [mskL]
  rw [e]
  refine UInt8.toNat_inj.1 ?_
  rw [msk_nat, show keepN ((0 : Nat) : Int) k = 0 by unfold keepN; omega, Nat.div_eq_of_lt (by exact UInt8.toNat_lt _)]
  rfl
theorem mskL_step {l : List UInt8} {i : Nat} (h : l.length = 16) (hi : i < 128) (b : UInt8) (hb : b.toNat = (l[i / 8]'(by omega)).toNat / 2 ^ (7 - i % 8) * 2 ^ (7 - i % 8)) : (mskL (i : Int) l).set (i / 8) b = mskL ((i + 1 : Nat) : Int) l := by
  refine List.ext_getElem (by rw [List.length_set, mskL_len, mskL_len]) fun k h1 h2 => ?_
  have hk : k < l.length := by rw [mskL_len] at h2; exact h2
  have e : ∀ (n : Int) (hx : k < (mskL n l).length), (mskL n l)[k] = l[k] &&& mskB n k := fun n _ => by simp [mskL]
  rw [List.getElem_set]
  split
  · rename_i hik
    subst hik
    rw [e]
    refine UInt8.toNat_inj.1 ?_
    rw [msk_nat, show keepN ((i + 1 : Nat) : Int) (i / 8) = i % 8 + 1 by unfold keepN; omega, show 8 - (i % 8 + 1) = 7 - i % 8 by omega]
    exact hb
  · rename_i hik
    rw [e, e]
    have : keepN (i : Int) k = keepN ((i + 1 : Nat) : Int) k := by unfold keepN; omega
    unfold mskB
    rw [this]
theorem mskL_get {l : List UInt8} {n : Int} {k : Nat} (hk : k < l.length) : (mskL n l)[k]? = some (l[k] &&& mskB n k) := by
  rw [List.getElem?_eq_getElem (by rw [mskL_len]; exact hk)]
  simp [mskL]
theorem rmask_byte {a : Ad} {i : Nat} (h : a.2.length = 16) (hi : i < 128) : orI .u8 (((a.2[i / 8]'(by omega) &&& mskB (i : Int) (i / 8)).toNat : Nat) : Int) (IntKind.u8.wrap ((bitA a i : Int) * pw ((7 - i % 8 : Nat) : Int) .u8)) = (((UInt8.ofNat ((a.2[i / 8]'(by omega)).toNat / 2 ^ (7 - i % 8) * 2 ^ (7 - i % 8))).toNat : Nat) : Int) := by
  have hc : (a.2[i / 8]'(by omega)).toNat < 256 := UInt8.toNat_lt _
  have e : bitA a i = (a.2[i / 8]'(by omega)).toNat / 2 ^ (7 - i % 8) % 2 := by
    unfold bitA
    rw [show a.2.getD (i / 8) 0 = a.2[i / 8]'(by omega) by rw [List.getD_eq_getElem?_getD, List.getElem?_eq_getElem (by omega)]; rfl]
  have hp : pw ((7 - i % 8 : Nat) : Int) .u8 = ((2 ^ (7 - i % 8) : Nat) : Int) := by
    rw [Int.natCast_pow]
    exact pw_lit (7 - i % 8) .u8 (by show 7 - i % 8 ≤ 8; omega)
  have hle : 2 ^ (7 - i % 8) ≤ 2 ^ 7 := Nat.pow_le_pow_right (by decide) (by omega)
  have hb1 : bitA a i ≤ 1 := by rw [e]; omega
  have hm : bitA a i * 2 ^ (7 - i % 8) ≤ 1 * 2 ^ 7 := Nat.mul_le_mul hb1 hle
  have hd : (a.2[i / 8]'(by omega)).toNat / 2 ^ (7 - i % 8) * 2 ^ (7 - i % 8) ≤ (a.2[i / 8]'(by omega)).toNat := Nat.div_mul_le_self _ _
  rw [hp, show ((bitA a i : Int) * ((2 ^ (7 - i % 8) : Nat) : Int)) = ((bitA a i * 2 ^ (7 - i % 8) : Nat) : Int) by rw [Int.natCast_mul], show IntKind.u8.wrap ((bitA a i * 2 ^ (7 - i % 8) : Nat) : Int) = ((bitA a i * 2 ^ (7 - i % 8) : Nat) : Int) by rw [wr8]; omega,
    msk_nat, show keepN (i : Int) (i / 8) = i % 8 by unfold keepN; omega, orI_nat .u8 _ _ (Nat.le_trans (Nat.div_mul_le_self _ _) (show _ ≤ 255 by omega)) (show _ ≤ 255 by omega), e, add_byte (by omega) hc, UInt8.toNat_ofNat', Nat.mod_eq_of_lt (show _ < 256 by omega)]
theorem maskOk_r (a : Ad) (n : Int) : maskOk a n = (validA a && decide (0 ≤ n) && decide (n ≤ rbitsA a)) := by
  have hv : maskOk a n = (validA a && decide (0 ≤ n) && decide (n ≤ bitsA a)) := by
    unfold maskOk validA
    rcases bitsA_cases a with h | h | h
    · rw [h]; simp
    · rw [h]; by_cases h0 : 0 ≤ n <;> by_cases h1 : n ≤ 32 <;> simp [h0, h1]
    · rw [h]; by_cases h0 : 0 ≤ n <;> by_cases h1 : n ≤ 128 <;> simp [h0, h1]
  have hbv : validA a = true → bitsA a = rbitsA a := fun h => by
    unfold validA bitsA at h
    unfold bitsA rbitsA
    by_cases h4 : a.1 = 4
    · rw [if_pos h4] at h ⊢
      rw [if_pos h4]
      cases e : (a.2.drop 4).all (fun c => c == 0)
      · rw [e] at h
        simp at h
      · simp
    · rw [if_neg h4] at h ⊢
      rw [if_neg h4]
      by_cases h6 : a.1 = 6
      · rw [if_pos h6]
      · rw [if_neg h6] at h
        simp at h
  rw [hv]
  cases h : validA a
  · rfl
  · rw [hbv h]
set_option maxRecDepth 100000 in
theorem rmask_does {w : World} {a : Ad} {n : Int} (h : okAd a) : Does Tryz.prog 106 [.agg ⟨adC a⟩, .int .i64 n] w (fun v w' => v = .tuple ⟨[.agg ⟨adC (maskA a n)⟩, .int .i64 (maskE a n)]⟩ ∧ Only [] w w') := by
  have h16 := h.2.2
  have b2 := (Blk.new w 24 ⟨adC a⟩).alloc (.cells ⟨adC zeroA⟩ 24)
  have b4 := Blk.new (w.alloc (.cells ⟨adC a⟩ 24)) 24 ⟨adC zeroA⟩
  have hA := ((Only.refl [] w).alloc (.cells ⟨adC a⟩ 24)).alloc (.cells ⟨adC zeroA⟩ 24)
  have hz4 := World.size_alloc w (.cells ⟨adC a⟩ 24)
  have hrb : rbitsA a = 32 ∨ rbitsA a = 128 := by unfold rbitsA; split <;> simp
  have hok := maskOk_r a n
  refine Does.enter (fn := Tryz.f106) (by kernel_rfl) rfl (by kernel_rfl) (by kernel_rfl) ?_
  refine vc.abs fun N0 hN => ?_
  conv => whnf
  refine hN _ _ ?_
  refine vc.abs fun N1 hN1 => ?_
  conv => whnf
  refine ⟨_, Loads.all b2 (by kernel_rfl) (by rw [adC_len h]; kernel_rfl), ?_⟩
  conv => whnf
  (refine (rvalid_does h).mono ?_; rintro v w2 ⟨rfl, ho2⟩)
  have b22 := b2.only ho2 (by simp)
  have b42 := b4.only ho2 (by simp)
  have hw2 := hA.t0 ho2
  conv => whnf
  refine hN1 _ _ ?_
  refine vc.abs2 rfl fun N2 hN2 => ?_
  conv => whnf
  refine VIf.not (VIf.of (b := validA a) (fun f1 => ?_) (fun f1 => ?_))
  rotate_left
  · have hf : maskOk a n = false := by rw [hok, f1]; rfl
    conv => whnf
    refine hN2 _ _ ?_
    conv => whnf
    refine vStore.all (cs := adC zeroA) b42 (by kernel_rfl) rfl (one_adC _) (fun wz bz hoZ _ => ?_)
    conv => whnf
    refine ⟨_, Loads.all bz (by kernel_rfl) (by kernel_rfl), ?_⟩
    conv => whnf
    refine ⟨?_, hw2.nw hoZ (by rw [hz4]; omega)⟩
    unfold maskA maskE
    rw [hf]
    rfl
  conv => whnf
  refine VIf.dec (fun f2 => ?_) (fun f2 => ?_)
  · have hf : maskOk a n = false := by rw [hok, decide_eq_false (show ¬ 0 ≤ n by omega)]; simp
    conv => whnf
    refine hN2 _ _ ?_
    conv => whnf
    refine vStore.all (cs := adC zeroA) b42 (by kernel_rfl) rfl (one_adC _) (fun wz bz hoZ _ => ?_)
    conv => whnf
    refine ⟨_, Loads.all bz (by kernel_rfl) (by kernel_rfl), ?_⟩
    conv => whnf
    refine ⟨?_, hw2.nw hoZ (by rw [hz4]; omega)⟩
    unfold maskA maskE
    rw [hf]
    rfl
  conv => whnf
  refine ⟨_, Loads.all b22 (by kernel_rfl) (by rw [adC_len h]; kernel_rfl), ?_⟩
  conv => whnf
  (refine (rbits_does h).mono ?_; rintro v w3 ⟨rfl, ho3⟩)
  have b23 := b22.only ho3 (by simp)
  have b43 := b42.only ho3 (by simp)
  have hw3 := hw2.t0 ho3
  conv => whnf
  refine hN2 _ _ ?_
  conv => whnf
  refine VIf.dec (fun f3 => ?_) (fun f3 => ?_)
  · have hf : maskOk a n = false := by rw [hok, decide_eq_false (show ¬ n ≤ rbitsA a by omega)]; simp
    conv => whnf
    refine vStore.all (cs := adC zeroA) b43 (by kernel_rfl) rfl (one_adC _) (fun wz bz hoZ _ => ?_)
    conv => whnf
    refine ⟨_, Loads.all bz (by kernel_rfl) (by kernel_rfl), ?_⟩
    conv => whnf
    refine ⟨?_, hw3.nw hoZ (by rw [hz4]; omega)⟩
    unfold maskA maskE
    rw [hf]
    rfl
  have hf : maskOk a n = true := by
    rw [hok, f1, decide_eq_true (show 0 ≤ n by omega), decide_eq_true (show n ≤ rbitsA a by omega)]
    rfl
  obtain ⟨m, rfl⟩ : ∃ m : Nat, n = (m : Int) := ⟨n.toNat, by omega⟩
  have hm : m ≤ 128 := by rcases hrb with e | e <;> rw [e] at f3 <;> omega
  conv => whnf
  (refine ⟨_, Loads.one (by kernel_rfl) (b23.at (i := 0) rfl), ?_⟩; conv => whnf)
  refine vStore.fresh (cs := adC (a.1, List.replicate 16 0)) (by kernel_rfl) rfl (one_adC _) (fun w4 b5 ho4 hz5 => ?_)
  have b24 := b23.only ho4 (by simp)
  have b44 := b43.only ho4 (by simp)
  have hw4 := hw3.t0 ho4
  have hlt := b43.lt
  have hw3s := hw3.size
  obtain ⟨g, hg⟩ : ∃ g, w3.heap.size = g := ⟨_, rfl⟩
  rw [hg] at b5 hlt
  have eb5 : Blk w4 g 24 ⟨adC (a.1, mskL ((0 : Nat) : Int) a.2)⟩ := by rw [mskL_zero h16]; exact b5
  have h2g : w.heap.size ∉ [g] := by simp; omega
  have h4g : (w.alloc (.cells ⟨adC a⟩ 24)).heap.size ∉ [g] := by simp; omega
  conv => whnf
  rw [hg]
  refine VLoop.inv (α := Nat) [(8, 9), (27, 49)] (fun i => [(8, .int .i64 i)]) (fun i w' => i ≤ m ∧ Blk w' g 24 ⟨adC (a.1, mskL (i : Int) a.2)⟩ ∧ Blk w' w.heap.size 24 ⟨adC a⟩ ∧ Blk w' (w.alloc (.cells ⟨adC a⟩ 24)).heap.size 24 ⟨adC zeroA⟩ ∧ Only [] w w') (fun i => m - i) 0 (by kernel_rfl) ⟨rfl, trivial⟩ ⟨Nat.zero_le _, eb5, b24, b44, hw4⟩ ?_
  rintro i wr j ⟨hi, bg, bA, bR, how⟩
  have okI : okAd (a.1, mskL (i : Int) a.2) := ⟨h.1, h.2.1, by rw [mskL_len]; exact h16⟩
  conv => whnf
  refine VIf.dec (fun ht => ?_) (fun ht => ?_)
  · have ht : (i : Int) < (m : Int) := ht
    have hi8 : i / 8 < a.2.length := by omega
    have e1 : IntKind.i64.wrap ((i : Int).tdiv 8) = ((i / 8 : Nat) : Int) := by rw [Int.tdiv_eq_ediv_of_nonneg (by omega), wi64]; omega
    have e2 : IntKind.i64.wrap (7 - (i : Int).tmod 8) = ((7 - i % 8 : Nat) : Int) := by rw [Int.tmod_eq_emod_of_nonneg (by omega), wi64]; omega
    have hcell : (adC (a.1, mskL (i : Int) a.2))[1 + i / 8]? = some (u8 (a.2[i / 8] &&& mskB (i : Int) (i / 8))) := by
      have hx : i / 8 < (mskL (i : Int) a.2).length := by rw [mskL_len]; exact hi8
      have := adC_at (a := (a.1, mskL (i : Int) a.2)) (k := i / 8) hx
      rw [this]
      congr 2
      simp [mskL]
    conv => whnf
    refine VDraw.abs fun N5 hN5 => ?_
    refine VDraw.ahead 17 (fun _ => True) (fun w' => Only [] wr w') [0, 1, 2, 3, 4, 5, 6, 7, 8, 10, 11, 12, 15, 9, 13, 14, 16, 17] (by kernel_rfl) (by kernel_rfl) trivial (Only.refl [] wr).drew ?_
    conv => whnf
    refine ⟨i / 8, 1 + i / 8, e1, by omega, p1 _ _, ?_⟩
    conv => whnf
    (refine ⟨_, fun w' hw' => Loads.one (by kernel_rfl) ((bg.only hw'.2 (by simp)).at hcell), ?_⟩; conv => whnf)
    refine ⟨_, fun w' hw' => Loads.all (bA.only hw'.2 (by simp)) (by kernel_rfl) (by rw [adC_len h]; kernel_rfl), ?_⟩
    conv => whnf
    refine (bit_does (n := i) h (by omega)).mono ?_
    rintro v w6 ⟨rfl, ho6⟩
    have ho6d : Only [] wr w6 := ((Only.refl [] wr).drew).t0 ho6
    have bg6 := bg.only ho6d (by simp)
    refine ⟨⟨trivial, fun _ => ho6d⟩, ?_⟩
    conv => whnf
    rw [e2]
    conv => whnf
    refine ⟨i / 8, 1 + i / 8, e1, by omega, p1 _ _, ?_⟩
    conv => whnf
    rw [rmask_byte h16 (by omega)]
    refine vStore.one bg6 (by kernel_rfl) rfl hcell (fun bg7 ho7 => ?_)
    refine ⟨⟨trivial, fun e => Bool.noConfusion e⟩, ?_⟩
    conv => whnf
    refine hN5 _ _ ?_
    conv => whnf
    refine ⟨i + 1, ⟨congrArg (Value.int IntKind.i64) (by rw [wi64]; omega), trivial⟩, ⟨by omega, ?_, (bA.only ho6d (by simp)).only ho7 h2g, (bR.only ho6d (by simp)).only ho7 h4g, (how.t0 ho6d).nw ho7 (by omega)⟩, by omega⟩
    have hst := mskL_step h16 (show i < 128 by omega) (UInt8.ofNat ((a.2[i / 8]).toNat / 2 ^ (7 - i % 8) * 2 ^ (7 - i % 8))) (by
      have := Nat.div_mul_le_self (a.2[i / 8]).toNat (2 ^ (7 - i % 8))
      have := (a.2[i / 8]).toNat_lt
      rw [UInt8.toNat_ofNat', Nat.mod_eq_of_lt (show _ < 256 by omega)])
    have eS : (adC (a.1, mskL (i : Int) a.2)).set (1 + i / 8) (u8 (UInt8.ofNat ((a.2[i / 8]).toNat / 2 ^ (7 - i % 8) * 2 ^ (7 - i % 8)))) = adC (a.1, mskL ((i + 1 : Nat) : Int) a.2) := by
      rw [← hst, Nat.add_comm 1 (i / 8)]
      unfold adC
      rw [List.set_cons_succ, ← List.map_set]
    exact (congrArg (fun x : List Value => Blk _ g 24 ⟨x⟩) eS) ▸ bg7
  · have ht : ¬ (i : Int) < (m : Int) := ht
    obtain rfl : i = m := by omega
    conv => whnf
    refine ⟨_, Loads.all bg (by kernel_rfl) (by rw [adC_len okI]; kernel_rfl), ?_⟩
    conv => whnf
    refine vStore.all (cs := adC (a.1, mskL (i : Int) a.2)) bR (by rw [adC_len okI]; kernel_rfl) (by rw [adC_len okI]; rfl) (one_adC _) (fun wz bz hoZ _ => ?_)
    conv => whnf
    refine ⟨_, Loads.all bz (by kernel_rfl) (by rw [adC_len okI]; kernel_rfl), ?_⟩
    conv => whnf
    refine ⟨?_, how.nw hoZ (by rw [hz4]; omega)⟩
    unfold maskA maskE
    rw [hf]
    rfl
end Go.Proofs.YtofomopdaponbaaGreatDoor
