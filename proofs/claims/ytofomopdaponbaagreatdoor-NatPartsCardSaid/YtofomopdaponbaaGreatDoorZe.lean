/-
  ip4: Head, checked, read, Parse; sum.Of.
-/
import Derived.Test.YtofomopdaponbaaGreatDoorZc
import Derived.Test.YtofomopdaponbaaGreatDoorZd
namespace Go.Proofs.YtofomopdaponbaaGreatDoor
open Go.RowKit
set_option linter.unusedVariables false
set_option linter.unusedSimpArgs false

def headP (p : Pk) : Int := if rightP p = true then 20 + p.opts.length else 0
set_option maxRecDepth 100000 in
theorem head_does {w : World} {p : Pk} {O D : At} {B : Nat} (hp : Pks w p O D B) (hs : Shp w) : Does Tryz.prog 51 [.agg ⟨pkC p O D⟩] w (fun v w' => v = .int .i64 (headP p) ∧ Only [] w w') := by
  have hA := Only.alloc (Only.refl [] w) (.cells ⟨pkC p O D⟩ 56)
  have hb := Blk.new w 56 ⟨pkC p O D⟩
  have hoc := hp.oc
  refine Does.enter (fn := Tryz.f51) (by kernel_rfl) rfl (by kernel_rfl) (by kernel_rfl) ?_
  conv => whnf
  refine ⟨_, hb.pkAll hp.ok, ?_⟩
  conv => whnf
  refine (right_does (hp.o hA) (hs.o hA)).mono ?_
  rintro v w1 ⟨rfl, ho⟩
  conv => whnf
  refine VIf.not (VIf.of (b := rightP p) (fun h1 => ?_) (fun h1 => ?_))
  · conv => whnf
    refine ⟨_, Loads.one (by kernel_rfl) ((hb.only ho (by simp)).pkOpts hp.ok), ?_⟩
    conv => whnf
    refine ⟨congrArg (Value.int IntKind.i64) ?_, hA.t0 ho⟩
    have := hp.ol
    rw [headP, if_pos h1, wi64]
    omega
  · conv => whnf
    refine ⟨congrArg (Value.int IntKind.i64) ?_, hA.t0 ho⟩
    rw [headP, if_neg (by simp [h1])]
def ofL (l : List UInt8) : Int := 65535 - partL l
theorem ofL_bd (l : List UInt8) : 0 ≤ ofL l ∧ ofL l ≤ 65535 := by
  have := partL_bd l
  unfold ofL
  omega
set_option maxRecDepth 100000 in
theorem of_does {w : World} {G : List Nat} {A : Option Addr} {n c : Nat} {l : List UInt8} (h : Bs w G A n l) (hn : n ≤ c) (hc : n ≤ 140737488355328) :
    Does Tryz.prog 87 [.slice A n c] w (fun v w' => v = .int .u16 (ofL l) ∧ Only [] w w') := by
  have hb := partL_bd l
  refine Does.enter (fn := Tryz.f87) (by kernel_rfl) rfl (by kernel_rfl) (by kernel_rfl) ?_
  conv => whnf
  refine (part_does h hn hc).mono ?_
  rintro v w1 ⟨rfl, ho⟩
  conv => whnf
  exact ⟨congrArg (Value.int IntKind.u16) (not_u16 hb.1 hb.2), ho⟩
/-- A head with its checksum put to nothing. -/
def zeroed (l : List UInt8) : List UInt8 := (l.set 10 0).set 11 0
def checkedL (l : List UInt8) : Bool := decide (((l.getD 10 0).toNat : Int) = ofL (zeroed l) / 256) && decide (((l.getD 11 0).toNat : Int) = ofL (zeroed l) % 256)
set_option maxRecDepth 100000 in
theorem checked_does {w : World} {G : List Nat} {A : Option Addr} {n c : Nat} {l : List UInt8} (h : Bs w G A n l) (h12 : 12 ≤ n) (hn : n ≤ 4096) :
    Does Tryz.prog 69 [.slice A n c] w (fun v w' => v = .bool (checkedL l) ∧ Only [] w w') := by
  have hl := h.len
  refine Does.enter (fn := Tryz.f69) (by kernel_rfl) rfl (by kernel_rfl) (by kernel_rfl) ?_
  conv => whnf
  refine (cloneB_does h (by omega)).mono ?_
  rintro v w1 ⟨A1, n1, c1, F1, rfl, hr, ho1, hF1⟩
  have hn1 : n1 = n := by
    have := hr.len
    rw [List.length_map] at this
    omega
  subst hn1
  obtain ⟨g, rfl, rfl, hf, ⟨u, hu⟩, hr1⟩ := hr.put (i := 10) (v := u8 0) (by omega)
  obtain ⟨g', e, _, hf2, ⟨u2, hu2⟩, hr2⟩ := hr1.put (i := 11) (v := u8 0) (by omega)
  cases e
  have hg : w.heap.size ≤ g := hF1 g (by simp)
  have hle := hr.le
  have ho3 : Only [g] w1 ((w1.setCell ⟨g, 10, none⟩ (u8 0)).setCell ⟨g, 11, none⟩ (u8 0)) := ((Only.refl _ w1).put (.inl (by simp))).put (.inl (by simp))
  have how : Only [] w ((w1.setCell ⟨g, 10, none⟩ (u8 0)).setCell ⟨g, 11, none⟩ (u8 0)) := ho1.nw ho3 hg
  have hz : ((l.map u8).set 10 (u8 0)).set 11 (u8 0) = (zeroed l).map u8 := by
    unfold zeroed
    rw [List.map_set, List.map_set]
  rw [hz] at hr2
  have hS := ofL_bd (zeroed l)
  have e1 : IntKind.u8.wrap (ofL (zeroed l) / pw 8 .u16) = ofL (zeroed l) / 256 := by rw [wr8, show pw 8 .u16 = 256 from rfl]; omega
  have e2 : IntKind.u8.wrap (ofL (zeroed l)) = ofL (zeroed l) % 256 := wr8 _
  obtain ⟨b, off, rfl, -⟩ := h.some_ (by omega)
  conv => whnf
  refine ⟨_, _, rfl, 10, 10, rfl, by omega, rfl, ?_⟩
  conv => whnf
  refine ⟨_, Stores.one (by kernel_rfl) rfl hu hf, ?_⟩
  conv => whnf
  refine ⟨_, _, rfl, 11, 11, rfl, by omega, rfl, ?_⟩
  conv => whnf
  refine ⟨_, Stores.one (by kernel_rfl) rfl hu2 hf2, ?_⟩
  conv => whnf
  refine (of_does hr2.bs hle.1 (by omega)).mono ?_
  rintro v w2 ⟨rfl, ho2⟩
  have hb2 := h.o (how.t0 ho2)
  conv => whnf
  refine ⟨_, _, rfl, 10, off + 10, rfl, by omega, p1 _ _, ?_⟩
  conv => whnf
  refine ⟨_, Loads.one (by kernel_rfl) (hb2.ld (getD_some (by omega))), ?_⟩
  conv => whnf
  rw [e1]
  refine VIf.eq (fun h1 => ?_) (fun h1 => ?_)
  · conv => whnf
    refine ⟨_, _, rfl, 11, off + 11, rfl, by omega, p1 _ _, ?_⟩
    conv => whnf
    refine ⟨_, Loads.one (by kernel_rfl) (hb2.ld (getD_some (by omega))), ?_⟩
    conv => whnf
    refine ⟨congrArg Value.bool ?_, how.t0 ho2⟩
    rw [e2]
    unfold checkedL
    rw [decide_eq_true h1, Bool.true_and]
    rfl
  · conv => whnf
    refine ⟨congrArg Value.bool ?_, how.t0 ho2⟩
    unfold checkedL
    rw [decide_eq_false h1, Bool.false_and]
/-- A head's bytes, one by one. -/
theorem ex20 {l : List UInt8} (h : 20 ≤ l.length) : ∃ c0 c1 c2 c3 c4 c5 c6 c7 c8 c9 c10 c11 c12 c13 c14 c15 c16 c17 c18 c19 r, l = c0 :: c1 :: c2 :: c3 :: c4 :: c5 :: c6 :: c7 :: c8 :: c9 :: c10 :: c11 :: c12 :: c13 :: c14 :: c15 :: c16 :: c17 :: c18 :: c19 :: r := by
  obtain ⟨c0, l0, rfl⟩ := List.exists_cons_of_length_pos (l := l) (by omega)
  simp only [List.length_cons] at h
  obtain ⟨c1, l1, rfl⟩ := List.exists_cons_of_length_pos (l := l0) (by omega)
  simp only [List.length_cons] at h
  obtain ⟨c2, l2, rfl⟩ := List.exists_cons_of_length_pos (l := l1) (by omega)
  simp only [List.length_cons] at h
  obtain ⟨c3, l3, rfl⟩ := List.exists_cons_of_length_pos (l := l2) (by omega)
  simp only [List.length_cons] at h
  obtain ⟨c4, l4, rfl⟩ := List.exists_cons_of_length_pos (l := l3) (by omega)
  simp only [List.length_cons] at h
  obtain ⟨c5, l5, rfl⟩ := List.exists_cons_of_length_pos (l := l4) (by omega)
  simp only [List.length_cons] at h
  obtain ⟨c6, l6, rfl⟩ := List.exists_cons_of_length_pos (l := l5) (by omega)
  simp only [List.length_cons] at h
  obtain ⟨c7, l7, rfl⟩ := List.exists_cons_of_length_pos (l := l6) (by omega)
  simp only [List.length_cons] at h
  obtain ⟨c8, l8, rfl⟩ := List.exists_cons_of_length_pos (l := l7) (by omega)
  simp only [List.length_cons] at h
  obtain ⟨c9, l9, rfl⟩ := List.exists_cons_of_length_pos (l := l8) (by omega)
  simp only [List.length_cons] at h
  obtain ⟨c10, l10, rfl⟩ := List.exists_cons_of_length_pos (l := l9) (by omega)
  simp only [List.length_cons] at h
  obtain ⟨c11, l11, rfl⟩ := List.exists_cons_of_length_pos (l := l10) (by omega)
  simp only [List.length_cons] at h
  obtain ⟨c12, l12, rfl⟩ := List.exists_cons_of_length_pos (l := l11) (by omega)
  simp only [List.length_cons] at h
  obtain ⟨c13, l13, rfl⟩ := List.exists_cons_of_length_pos (l := l12) (by omega)
  simp only [List.length_cons] at h
  obtain ⟨c14, l14, rfl⟩ := List.exists_cons_of_length_pos (l := l13) (by omega)
  simp only [List.length_cons] at h
  obtain ⟨c15, l15, rfl⟩ := List.exists_cons_of_length_pos (l := l14) (by omega)
  simp only [List.length_cons] at h
  obtain ⟨c16, l16, rfl⟩ := List.exists_cons_of_length_pos (l := l15) (by omega)
  simp only [List.length_cons] at h
  obtain ⟨c17, l17, rfl⟩ := List.exists_cons_of_length_pos (l := l16) (by omega)
  simp only [List.length_cons] at h
  obtain ⟨c18, l18, rfl⟩ := List.exists_cons_of_length_pos (l := l17) (by omega)
  simp only [List.length_cons] at h
  obtain ⟨c19, l19, rfl⟩ := List.exists_cons_of_length_pos (l := l18) (by omega)
  simp only [List.length_cons] at h
  exact ⟨c0, c1, c2, c3, c4, c5, c6, c7, c8, c9, c10, c11, c12, c13, c14, c15, c16, c17, c18, c19, l19, rfl⟩
def z12 : List UInt8 := List.replicate 12 0
def flagF (l : List UInt8) : Int := wordL l 6
def readP (l : List UInt8) (head : Nat) : Pk :=
  ⟨4, (l.getD 1 0).toNat, 0, (4, (l.drop 12).take 4 ++ z12), (4, (l.drop 16).take 4 ++ z12), (l.getD 9 0).toNat, (l.getD 8 0).toNat, wordL l 4, andI .u16 (flagF l) 16384 != 0, andI .u16 (flagF l) 8192 != 0, false, (flagF l) % 8192 * 8, (l.drop 20).take (head - 20), l.drop head⟩
theorem one_pkC (p : Pk) (O D : At) : ∀ u ∈ pkC p O D, isOne u = true := by
  intro u hu
  simp only [pkC, List.mem_append] at hu
  rcases hu with hu | hu | hu | hu
  · simp only [pkH, List.mem_cons, List.not_mem_nil, or_false] at hu
    rcases hu with rfl | rfl | rfl <;> rfl
  · exact one_adC _ u hu
  · exact one_adC _ u hu
  · simp only [pkT, List.mem_cons, List.not_mem_nil, or_false] at hu
    rcases hu with rfl | rfl | rfl | rfl | rfl | rfl | rfl | rfl | rfl <;> rfl
theorem okAd4 {l : List UInt8} (h : l.length = 16) : okAd (4, l) := ⟨show (-9223372036854775808 : Int) ≤ 4 by decide, show (4 : Int) ≤ 9223372036854775807 by decide, h⟩
theorem wi8 (c : UInt8) : IntKind.i64.wrap (c.toNat : Int) = (c.toNat : Int) := by
  have := u8_le c
  rw [wi64]
  omega
theorem w32 (a b : UInt8) : IntKind.u32.wrap ((a.toNat : Int) * 256 + (b.toNat : Int)) = (a.toNat : Int) * 256 + (b.toNat : Int) := by
  have := u8_le a
  have := u8_le b
  rw [wr32]
  omega
theorem off_e (a b : UInt8) : IntKind.i64.wrap (IntKind.i64.wrap (((a.toNat : Int) * 256 + (b.toNat : Int)).tmod 8192) * 8) = ((a.toNat : Int) * 256 + (b.toNat : Int)) % 8192 * 8 := by
  have := u8_le a
  have := u8_le b
  have h1 : IntKind.i64.wrap (((a.toNat : Int) * 256 + (b.toNat : Int)).tmod 8192) = ((a.toNat : Int) * 256 + (b.toNat : Int)) % 8192 := by
    rw [Int.tmod_eq_emod_of_nonneg (by omega), wi64]
    omega
  rw [h1, wi64]
  omega
set_option maxHeartbeats 4000000 in
set_option maxRecDepth 100000 in
theorem read_does {w : World} {G : List Nat} {A : Option Addr} {n c head : Nat} {l : List UInt8} (h : Bs w G A n l) (h20 : 20 ≤ head) (hh : head ≤ n) (hn : n ≤ 140737488355328) :
    Does Tryz.prog 70 [.slice A n c, .int .i64 head] w (fun v w' => ∃ O D, v = .tuple ⟨[.agg ⟨pkC (readP l head) O D⟩, .int .u16 (flagF l)]⟩ ∧ Pks w' (readP l head) O D w.heap.size ∧ Only [] w w') := by
  have hl := h.len
  obtain ⟨k, rfl⟩ : ∃ k, head = k + 20 := ⟨head - 20, by omega⟩
  obtain ⟨c0, c1, c2, c3, c4, c5, c6, c7, c8, c9, c10, c11, c12, c13, c14, c15, c16, c17, c18, c19, r, rfl⟩ := ex20 (l := l) (by omega)
  simp only [List.length_cons] at hl
  have hA := Only.alloc (Only.refl [] w) (.cells ⟨pkC ⟨0, 0, 0, (0, List.replicate 16 0), (0, List.replicate 16 0), 0, 0, 0, false, false, false, 0, [], []⟩ (none, 0) (none, 0)⟩ 56)
  have hb4 := Blk.new w 56 ⟨pkC ⟨0, 0, 0, (0, List.replicate 16 0), (0, List.replicate 16 0), 0, 0, 0, false, false, false, 0, [], []⟩ (none, 0) (none, 0)⟩
  have hz0 := World.size_alloc w (.cells ⟨pkC ⟨0, 0, 0, (0, List.replicate 16 0), (0, List.replicate 16 0), 0, 0, 0, false, false, false, 0, [], []⟩ (none, 0) (none, 0)⟩ 56)
  refine Does.enter (fn := Tryz.f70) (by kernel_rfl) rfl (by kernel_rfl) (by kernel_rfl) ?_
  conv => whnf
  refine (newReader_does (h.o hA) hn).mono ?_
  rintro v w1 ⟨R, rfl, hR, ho1, hRge⟩
  have b4 := hb4.only ho1 (by simp)
  have how := hA.t0 ho1
  have hRlt := hR.lt
  have hsz1 := ho1.size
  have hne4 : w.heap.size ∉ [R] := by simp; omega
  conv => whnf
  refine vStore.fresh (cs := pkC ⟨4, 0, 0, (0, List.replicate 16 0), (0, List.replicate 16 0), 0, 0, 0, false, false, false, 0, [], []⟩ (none, 0) (none, 0)) (by kernel_rfl) rfl (one_pkC _ _ _) (fun w2 b7 ho2 hz2 => ?_)
  have b4 := b4.only ho2 (by simp)
  have hR := hR.only ho2
  have how := how.t0 ho2
  obtain ⟨g7, hg7⟩ : ∃ g7, w1.heap.size = g7 := ⟨_, rfl⟩
  rw [hg7] at b7 hRlt ⊢
  have hne7 : g7 ∉ [R] := by simp; omega
  have hR7 : R < g7 := by omega
  have h47 : w.heap.size ∉ [g7] := by simp; omega
  have hR0 : w.heap.size ≤ R := by omega
  have hg0 : w.heap.size ≤ g7 := by omega
  conv => whnf
  refine (rU8_does hR).mono ?_
  rintro v w3 ⟨rfl, hR, ho3⟩
  have b4 := b4.only ho3 hne4
  have b7 := b7.only ho3 hne7
  have how := how.nw ho3 hR0
  conv => whnf
  refine (rU8_does hR).mono ?_
  rintro v w4 ⟨rfl, hR, ho4⟩
  have b4 := b4.only ho4 hne4
  have b7 := b7.only ho4 hne7
  have how := how.nw ho4 hR0
  conv => whnf
  rw [wi8 c1]
  refine vStore.one b7 (by kernel_rfl) rfl (i := 1) (u := .int .i64 0) rfl (fun b7 hoS => ?_)
  have b7 : Blk _ g7 56 ⟨pkC ⟨4, (c1.toNat : Int), 0, (0, List.replicate 16 0), (0, List.replicate 16 0), 0, 0, 0, false, false, false, 0, [], []⟩ (none, 0) (none, 0)⟩ := b7
  have b4 := b4.only hoS h47
  have hR := hR.far hoS hR7
  have how := how.nw hoS hg0
  conv => whnf
  refine (rU16_does hR).mono ?_
  rintro v w5 ⟨rfl, hR, ho5⟩
  have b4 := b4.only ho5 hne4
  have b7 := b7.only ho5 hne7
  have how := how.nw ho5 hR0
  conv => whnf
  refine (rU16_does hR).mono ?_
  rintro v w6 ⟨rfl, hR, ho6⟩
  have b4 := b4.only ho6 hne4
  have b7 := b7.only ho6 hne7
  have how := how.nw ho6 hR0
  conv => whnf
  rw [w32 c4 c5]
  refine vStore.one b7 (by kernel_rfl) rfl (i := 39) (u := .int .u32 0) rfl (fun b7 hoS => ?_)
  have b7 : Blk _ g7 56 ⟨pkC ⟨4, (c1.toNat : Int), 0, (0, List.replicate 16 0), (0, List.replicate 16 0), 0, 0, ((c4.toNat : Int) * 256 + (c5.toNat : Int)), false, false, false, 0, [], []⟩ (none, 0) (none, 0)⟩ := b7
  have b4 := b4.only hoS h47
  have hR := hR.far hoS hR7
  have how := how.nw hoS hg0
  conv => whnf
  refine (rU16_does hR).mono ?_
  rintro v w7 ⟨rfl, hR, ho7⟩
  have b4 := b4.only ho7 hne4
  have b7 := b7.only ho7 hne7
  have how := how.nw ho7 hR0
  conv => whnf
  refine vStore.one b7 (by kernel_rfl) rfl (i := 40) (u := .bool false) rfl (fun b7 hoS => ?_)
  have b7 : Blk _ g7 56 ⟨pkC ⟨4, (c1.toNat : Int), 0, (0, List.replicate 16 0), (0, List.replicate 16 0), 0, 0, ((c4.toNat : Int) * 256 + (c5.toNat : Int)), (andI .u16 ((c6.toNat : Int) * 256 + (c7.toNat : Int)) 16384 != 0), false, false, 0, [], []⟩ (none, 0) (none, 0)⟩ := b7
  have b4 := b4.only hoS h47
  have hR := hR.far hoS hR7
  have how := how.nw hoS hg0
  conv => whnf
  refine vStore.one b7 (by kernel_rfl) rfl (i := 41) (u := .bool false) rfl (fun b7 hoS => ?_)
  have b7 : Blk _ g7 56 ⟨pkC ⟨4, (c1.toNat : Int), 0, (0, List.replicate 16 0), (0, List.replicate 16 0), 0, 0, ((c4.toNat : Int) * 256 + (c5.toNat : Int)), (andI .u16 ((c6.toNat : Int) * 256 + (c7.toNat : Int)) 16384 != 0), (andI .u16 ((c6.toNat : Int) * 256 + (c7.toNat : Int)) 8192 != 0), false, 0, [], []⟩ (none, 0) (none, 0)⟩ := b7
  have b4 := b4.only hoS h47
  have hR := hR.far hoS hR7
  have how := how.nw hoS hg0
  conv => whnf
  rw [off_e c6 c7]
  refine vStore.one b7 (by kernel_rfl) rfl (i := 43) (u := .int .i64 0) rfl (fun b7 hoS => ?_)
  have b7 : Blk _ g7 56 ⟨pkC ⟨4, (c1.toNat : Int), 0, (0, List.replicate 16 0), (0, List.replicate 16 0), 0, 0, ((c4.toNat : Int) * 256 + (c5.toNat : Int)), (andI .u16 ((c6.toNat : Int) * 256 + (c7.toNat : Int)) 16384 != 0), (andI .u16 ((c6.toNat : Int) * 256 + (c7.toNat : Int)) 8192 != 0), false, (((c6.toNat : Int) * 256 + (c7.toNat : Int)) % 8192 * 8), [], []⟩ (none, 0) (none, 0)⟩ := b7
  have b4 := b4.only hoS h47
  have hR := hR.far hoS hR7
  have how := how.nw hoS hg0
  conv => whnf
  refine (rU8_does hR).mono ?_
  rintro v w8 ⟨rfl, hR, ho8⟩
  have b4 := b4.only ho8 hne4
  have b7 := b7.only ho8 hne7
  have how := how.nw ho8 hR0
  conv => whnf
  refine (rU8_does hR).mono ?_
  rintro v w9 ⟨rfl, hR, ho9⟩
  have b4 := b4.only ho9 hne4
  have b7 := b7.only ho9 hne7
  have how := how.nw ho9 hR0
  conv => whnf
  rw [wi8 c8]
  refine vStore.one b7 (by kernel_rfl) rfl (i := 38) (u := .int .i64 0) rfl (fun b7 hoS => ?_)
  have b7 : Blk _ g7 56 ⟨pkC ⟨4, (c1.toNat : Int), 0, (0, List.replicate 16 0), (0, List.replicate 16 0), 0, (c8.toNat : Int), ((c4.toNat : Int) * 256 + (c5.toNat : Int)), (andI .u16 ((c6.toNat : Int) * 256 + (c7.toNat : Int)) 16384 != 0), (andI .u16 ((c6.toNat : Int) * 256 + (c7.toNat : Int)) 8192 != 0), false, (((c6.toNat : Int) * 256 + (c7.toNat : Int)) % 8192 * 8), [], []⟩ (none, 0) (none, 0)⟩ := b7
  have b4 := b4.only hoS h47
  have hR := hR.far hoS hR7
  have how := how.nw hoS hg0
  conv => whnf
  rw [wi8 c9]
  refine vStore.one b7 (by kernel_rfl) rfl (i := 37) (u := .int .i64 0) rfl (fun b7 hoS => ?_)
  have b7 : Blk _ g7 56 ⟨pkC ⟨4, (c1.toNat : Int), 0, (0, List.replicate 16 0), (0, List.replicate 16 0), (c9.toNat : Int), (c8.toNat : Int), ((c4.toNat : Int) * 256 + (c5.toNat : Int)), (andI .u16 ((c6.toNat : Int) * 256 + (c7.toNat : Int)) 16384 != 0), (andI .u16 ((c6.toNat : Int) * 256 + (c7.toNat : Int)) 8192 != 0), false, (((c6.toNat : Int) * 256 + (c7.toNat : Int)) % 8192 * 8), [], []⟩ (none, 0) (none, 0)⟩ := b7
  have b4 := b4.only hoS h47
  have hR := hR.far hoS hR7
  have how := how.nw hoS hg0
  conv => whnf
  refine (rU16_does hR).mono ?_
  rintro v w10 ⟨rfl, hR, ho10⟩
  have b4 := b4.only ho10 hne4
  have b7 := b7.only ho10 hne7
  have how := how.nw ho10 hR0
  conv => whnf
  refine vStore.blk b7 (by kernel_rfl) (o := 3) (cs := adC (4, List.replicate 16 0)) (Nat.le_of_ble_eq_true rfl) (one_adC _) (fun w' b7 hoS _ => ?_)
  have b7 : Blk _ g7 56 ⟨pkC ⟨4, (c1.toNat : Int), 0, (4, List.replicate 16 0), (0, List.replicate 16 0), (c9.toNat : Int), (c8.toNat : Int), ((c4.toNat : Int) * 256 + (c5.toNat : Int)), (andI .u16 ((c6.toNat : Int) * 256 + (c7.toNat : Int)) 16384 != 0), (andI .u16 ((c6.toNat : Int) * 256 + (c7.toNat : Int)) 8192 != 0), false, (((c6.toNat : Int) * 256 + (c7.toNat : Int)) % 8192 * 8), [], []⟩ (none, 0) (none, 0)⟩ := b7
  have b4 := b4.only hoS h47
  have hR := hR.far hoS hR7
  have how := how.nw hoS hg0
  conv => whnf
  refine vStore.blk b7 (by kernel_rfl) (o := 20) (cs := adC (4, List.replicate 16 0)) (Nat.le_of_ble_eq_true rfl) (one_adC _) (fun w' b7 hoS _ => ?_)
  have b7 : Blk _ g7 56 ⟨pkC ⟨4, (c1.toNat : Int), 0, (4, List.replicate 16 0), (4, List.replicate 16 0), (c9.toNat : Int), (c8.toNat : Int), ((c4.toNat : Int) * 256 + (c5.toNat : Int)), (andI .u16 ((c6.toNat : Int) * 256 + (c7.toNat : Int)) 16384 != 0), (andI .u16 ((c6.toNat : Int) * 256 + (c7.toNat : Int)) 8192 != 0), false, (((c6.toNat : Int) * 256 + (c7.toNat : Int)) % 8192 * 8), [], []⟩ (none, 0) (none, 0)⟩ := b7
  have b4 := b4.only hoS h47
  have hR := hR.far hoS hR7
  have how := how.nw hoS hg0
  conv => whnf
  have b4 := b4.drew
  have b7 := b7.drew
  have how := how.drew
  have hR := hR.only ((Only.refl [] _).drew)
  refine VDraw.held (fun _ => True) [0, 1, 2, 3, 4, 5] (by kernel_rfl) (by kernel_rfl) trivial ?_
  conv => whnf
  refine ⟨0, 16, 16, rfl, rfl, rfl, by decide, by decide, by decide, ⟨g7, 4, none⟩, 16, 16, rfl, rfl, rfl, ?_⟩
  conv => whnf
  have hR : Rd _ R (c12 :: c13 :: c14 :: c15 :: c16 :: c17 :: c18 :: c19 :: r) := hR
  refine (rBytes_does (k := 4) hR (by simp only [List.length_cons]; omega) (by simp only [List.length_cons]; omega)).mono ?_
  rintro v w11 ⟨wm, hv, hoR, hR⟩
  obtain ⟨A1, n1, G1, rfl, hB1, -, -, hoB, -⟩ := hv.bs
  have ho11 := hoR.f0 hoB
  have b4 := b4.only ho11 hne4
  have b7 := b7.only ho11 hne7
  have how := how.nw ho11 hR0
  refine ⟨trivial, ?_⟩
  conv => whnf
  refine vFall.copy (e := 5) rfl (by kernel_rfl) (by kernel_rfl) rfl b7 rfl hB1 (Nat.succ_pos _) (Nat.le_of_ble_eq_true rfl) (fun w' b7 hoS _ => ?_)
  have b7 : Blk _ g7 56 ⟨pkC ⟨4, (c1.toNat : Int), 0, (4, [c12, c13, c14, c15, 0, 0, 0, 0, 0, 0, 0, 0, 0, 0, 0, 0]), (4, List.replicate 16 0), (c9.toNat : Int), (c8.toNat : Int), ((c4.toNat : Int) * 256 + (c5.toNat : Int)), (andI .u16 ((c6.toNat : Int) * 256 + (c7.toNat : Int)) 16384 != 0), (andI .u16 ((c6.toNat : Int) * 256 + (c7.toNat : Int)) 8192 != 0), false, (((c6.toNat : Int) * 256 + (c7.toNat : Int)) % 8192 * 8), [], []⟩ (none, 0) (none, 0)⟩ := b7
  have b4 := b4.only hoS h47
  have hR := hR.far hoS hR7
  have how := how.nw hoS hg0
  refine ⟨trivial, ?_⟩
  conv => whnf
  have b4 := b4.drew
  have b7 := b7.drew
  have how := how.drew
  have hR := hR.only ((Only.refl [] _).drew)
  refine VDraw.held (fun _ => True) [0, 1, 2, 3, 4, 5] (by kernel_rfl) (by kernel_rfl) trivial ?_
  conv => whnf
  refine ⟨0, 16, 16, rfl, rfl, rfl, by decide, by decide, by decide, ⟨g7, 21, none⟩, 16, 16, rfl, rfl, rfl, ?_⟩
  conv => whnf
  have hR : Rd _ R (c16 :: c17 :: c18 :: c19 :: r) := hR
  refine (rBytes_does (k := 4) hR (by simp only [List.length_cons]; omega) (by simp only [List.length_cons]; omega)).mono ?_
  rintro v w12 ⟨wm, hv, hoR, hR⟩
  obtain ⟨A1, n1, G1, rfl, hB1, -, -, hoB, -⟩ := hv.bs
  have ho12 := hoR.f0 hoB
  have b4 := b4.only ho12 hne4
  have b7 := b7.only ho12 hne7
  have how := how.nw ho12 hR0
  refine ⟨trivial, ?_⟩
  conv => whnf
  refine vFall.copy (e := 5) rfl (by kernel_rfl) (by kernel_rfl) rfl b7 rfl hB1 (Nat.succ_pos _) (Nat.le_of_ble_eq_true rfl) (fun w' b7 hoS _ => ?_)
  have b7 : Blk _ g7 56 ⟨pkC ⟨4, (c1.toNat : Int), 0, (4, [c12, c13, c14, c15, 0, 0, 0, 0, 0, 0, 0, 0, 0, 0, 0, 0]), (4, [c16, c17, c18, c19, 0, 0, 0, 0, 0, 0, 0, 0, 0, 0, 0, 0]), (c9.toNat : Int), (c8.toNat : Int), ((c4.toNat : Int) * 256 + (c5.toNat : Int)), (andI .u16 ((c6.toNat : Int) * 256 + (c7.toNat : Int)) 16384 != 0), (andI .u16 ((c6.toNat : Int) * 256 + (c7.toNat : Int)) 8192 != 0), false, (((c6.toNat : Int) * 256 + (c7.toNat : Int)) % 8192 * 8), [], []⟩ (none, 0) (none, 0)⟩ := b7
  have b4 := b4.only hoS h47
  have hR := hR.far hoS hR7
  have how := how.nw hoS hg0
  refine ⟨trivial, ?_⟩
  conv => whnf
  rw [show IntKind.i64.wrap (((k + 20 : Nat) : Int) - 20) = ((k : Nat) : Int) from by rw [wi64]; omega]
  have hR : Rd _ R r := hR
  have hlt7 := b7.lt
  refine (rBytes_does (k := k) hR (show k ≤ r.length by omega) (show r.length ≤ _ by omega)).mono ?_
  rintro v w13 ⟨wm, hv, hoR, hR⟩
  obtain ⟨AO, nO, GO, rfl, hBO, hcO, hmO, hoB, hGO⟩ := hv.bs
  have ho13 := hoR.f0 hoB
  have hszO := hoR.size
  have hGO7 : ∀ x ∈ GO, g7 < x := fun x hx => by have := (hGO x hx).1; omega
  have b4 := b4.only ho13 hne4
  have b7 := b7.only ho13 hne7
  have how := how.nw ho13 hR0
  conv => whnf
  refine vStore.one b7 (by kernel_rfl) rfl (i := 44) (u := .slice none 0 0) rfl (fun b7 hoS => ?_)
  have b7 : Blk _ g7 56 ⟨pkC ⟨4, (c1.toNat : Int), 0, (4, [c12, c13, c14, c15, 0, 0, 0, 0, 0, 0, 0, 0, 0, 0, 0, 0]), (4, [c16, c17, c18, c19, 0, 0, 0, 0, 0, 0, 0, 0, 0, 0, 0, 0]), (c9.toNat : Int), (c8.toNat : Int), ((c4.toNat : Int) * 256 + (c5.toNat : Int)), (andI .u16 ((c6.toNat : Int) * 256 + (c7.toNat : Int)) 16384 != 0), (andI .u16 ((c6.toNat : Int) * 256 + (c7.toNat : Int)) 8192 != 0), false, (((c6.toNat : Int) * 256 + (c7.toNat : Int)) % 8192 * 8), (r.take k), []⟩ (AO, nO) (none, 0)⟩ := b7
  have hBO := hBO.only hoS (fun x hx => by have := hGO7 x hx; simp; omega)
  have b4 := b4.only hoS h47
  have hR := hR.far hoS hR7
  have how := how.nw hoS hg0
  conv => whnf
  refine (rLeft_does hR).mono ?_
  rintro v w' ⟨rfl, rfl⟩
  conv => whnf
  have hlt7 := b7.lt
  refine (rBytes_does (k := (r.drop k).length) hR (Nat.le_refl _) (by rw [List.length_drop]; omega)).mono ?_
  rintro v w14 ⟨wm2, hv, hoR, hR⟩
  rw [List.take_length] at hv
  obtain ⟨AD, nD, GD, rfl, hBD, hcD, hmD, hoB, hGD⟩ := hv.bs
  have ho14 := hoR.f0 hoB
  have hszR := hoR.size
  have hBO := hBO.only ho14 (fun x hx => by have := hGO7 x hx; simp; omega)
  have b4 := b4.only ho14 hne4
  have b7 := b7.only ho14 hne7
  have how := how.nw ho14 hR0
  conv => whnf
  refine vStore.one b7 (by kernel_rfl) rfl (i := 45) (u := .slice none 0 0) rfl (fun b7 hoS => ?_)
  have b7 : Blk _ g7 56 ⟨pkC ⟨4, (c1.toNat : Int), 0, (4, [c12, c13, c14, c15, 0, 0, 0, 0, 0, 0, 0, 0, 0, 0, 0, 0]), (4, [c16, c17, c18, c19, 0, 0, 0, 0, 0, 0, 0, 0, 0, 0, 0, 0]), (c9.toNat : Int), (c8.toNat : Int), ((c4.toNat : Int) * 256 + (c5.toNat : Int)), (andI .u16 ((c6.toNat : Int) * 256 + (c7.toNat : Int)) 16384 != 0), (andI .u16 ((c6.toNat : Int) * 256 + (c7.toNat : Int)) 8192 != 0), false, (((c6.toNat : Int) * 256 + (c7.toNat : Int)) % 8192 * 8), (r.take k), (r.drop k)⟩ (AO, nO) (AD, nD)⟩ := b7
  have hBO := hBO.only hoS (fun x hx => by have := hGO7 x hx; simp; omega)
  have hBD := hBD.only hoS (fun x hx => by have := (hGD x hx).1; simp; omega)
  have b4 := b4.only hoS h47
  have hR := hR.far hoS hR7
  have how := how.nw hoS hg0
  conv => whnf
  refine ⟨_, Loads.all b7 (by kernel_rfl) (by kernel_rfl), ?_⟩
  conv => whnf
  refine vStore.all b4 (by kernel_rfl) rfl (one_pkC _ _ _) (fun wz bz hoZ _ => ?_)
  have hBO := hBO.only hoZ (fun x hx => by have := hGO7 x hx; simp; omega)
  have hBD := hBD.only hoZ (fun x hx => by have := (hGD x hx).1; simp; omega)
  have how := how.nw hoZ (Nat.le_refl _)
  conv => whnf
  refine ⟨_, Loads.all bz (by kernel_rfl) (by kernel_rfl), ?_⟩
  conv => whnf
  have e : readP (c0 :: c1 :: c2 :: c3 :: c4 :: c5 :: c6 :: c7 :: c8 :: c9 :: c10 :: c11 :: c12 :: c13 :: c14 :: c15 :: c16 :: c17 :: c18 :: c19 :: r) (k + 20) = ⟨4, (c1.toNat : Int), 0, (4, [c12, c13, c14, c15, 0, 0, 0, 0, 0, 0, 0, 0, 0, 0, 0, 0]), (4, [c16, c17, c18, c19, 0, 0, 0, 0, 0, 0, 0, 0, 0, 0, 0, 0]), (c9.toNat : Int), (c8.toNat : Int), ((c4.toNat : Int) * 256 + (c5.toNat : Int)), (andI .u16 ((c6.toNat : Int) * 256 + (c7.toNat : Int)) 16384 != 0), (andI .u16 ((c6.toNat : Int) * 256 + (c7.toNat : Int)) 8192 != 0), false, (((c6.toNat : Int) * 256 + (c7.toNat : Int)) % 8192 * 8), (r.take k), (r.drop k)⟩ := by
    unfold readP
    rw [Nat.add_sub_cancel]
    rfl
  rw [e]
  refine ⟨(AO, nO), (AD, nD), rfl, ⟨⟨okAd4 rfl, okAd4 rfl, ?_⟩, ⟨GO, hBO, fun x hx => by have := hGO7 x hx; omega⟩, ⟨GD, hBD, fun x hx => by have := (hGD x hx).1; omega⟩, ⟨hcO, hmO⟩, ⟨hcD, hmD⟩, ?_, ?_⟩, how⟩
  · show -9223372036854775808 ≤ ((c6.toNat : Int) * 256 + (c7.toNat : Int)) % 8192 * 8 ∧ ((c6.toNat : Int) * 256 + (c7.toNat : Int)) % 8192 * 8 ≤ 9223372036854775807
    omega
  · show (r.take k).length ≤ _
    rw [List.length_take]
    omega
  · show (r.drop k).length ≤ _
    rw [List.length_drop]
    omega
end Go.Proofs.YtofomopdaponbaaGreatDoor
/-
  ip4.Parse.
-/
namespace Go.Proofs.YtofomopdaponbaaGreatDoor
open Go.RowKit
set_option linter.unusedVariables false
set_option linter.unusedSimpArgs false

def zeroP : Pk := ⟨0, 0, 0, (0, List.replicate 16 0), (0, List.replicate 16 0), 0, 0, 0, false, false, false, 0, [], []⟩
def headL (l : List UInt8) : Nat := (l.getD 0 0).toNat % 16 * 4
def parseE (l : List UInt8) : Int :=
  if l.length < 20 then 20
  else if (l.getD 0 0).toNat / 16 ≠ 4 then 50
  else if headL l < 20 then 50
  else if l.length < headL l then 20
  else if wordL l 2 ≠ l.length then 51
  else if checkedL (l.take (headL l)) = false then 52
  else if andI .u16 (flagF l) 32768 ≠ 0 then 50
  else if placedP (readP l (headL l)) = false then 50
  else if optsOk (readP l (headL l)).opts = false then 40
  else 0
def parseP (l : List UInt8) : Pk := if parseE l = 0 then readP l (headL l) else zeroP
theorem zeroP_ok (w : World) (B : Nat) : Pks w zeroP (none, 0) (none, 0) B :=
  ⟨⟨⟨by decide, by decide, rfl⟩, ⟨by decide, by decide, rfl⟩, by decide⟩, ⟨[], Sl.nil _ _ _ _, by simp⟩, ⟨[], Sl.nil _ _ _ _, by simp⟩, ⟨by decide, by decide⟩, ⟨by decide, by decide⟩, by decide, by decide⟩
theorem parse_fail {w w' : World} {l : List UInt8} {e : Int} (he : parseE l = e) (hne : e ≠ 0) (ho : Only [] w w') :
    ∃ O D, Value.tuple ⟨[.agg ⟨pkC zeroP (none, 0) (none, 0)⟩, .int .i64 e]⟩ = .tuple ⟨[.agg ⟨pkC (parseP l) O D⟩, .int .i64 (parseE l)]⟩ ∧ Pks w' (parseP l) O D w.heap.size ∧ Only [] w w' := by
  have hp : parseP l = zeroP := if_neg (by rw [he]; exact hne)
  rw [hp, he]
  exact ⟨(none, 0), (none, 0), rfl, zeroP_ok _ _, ho⟩
theorem size_e {l : List UInt8} : IntKind.i64.wrap (IntKind.i64.wrap (IntKind.i64.wrap ((l.getD 2 0).toNat : Int) * pw 8 .i64) + IntKind.i64.wrap ((l.getD 3 0).toNat : Int)) = wordL l 2 := by
  have h2 := u8_le (l.getD 2 0)
  have h3 := u8_le (l.getD 3 0)
  rw [wi8, wi8, show pw 8 .i64 = 256 from rfl]
  have e : IntKind.i64.wrap (((l.getD 2 0).toNat : Int) * 256) = ((l.getD 2 0).toNat : Int) * 256 := by rw [wi64]; omega
  rw [e, wi64]
  show _ = ((l.getD 2 0).toNat : Int) * 256 + ((l.getD 3 0).toNat : Int)
  omega
set_option maxHeartbeats 4000000 in
set_option maxRecDepth 100000 in
theorem parse_does {w : World} {G : List Nat} {A : Option Addr} {n c : Nat} {l : List UInt8} (h : Bs w G A n l) (hs : Shp w) (hn : n ≤ 140737488355328) (hc : n ≤ c) (hcm : c ≤ 9223372036854775807) :
    Does Tryz.prog 21 [.slice A n c] w (fun v w' => ∃ O D, v = .tuple ⟨[.agg ⟨pkC (parseP l) O D⟩, .int .i64 (parseE l)]⟩ ∧ Pks w' (parseP l) O D w.heap.size ∧ Only [] w w') := by
  have hl := h.len
  have hA := Only.alloc (Only.refl [] w) (.cells ⟨pkC zeroP (none, 0) (none, 0)⟩ 56)
  have b2 := Blk.new w 56 ⟨pkC zeroP (none, 0) (none, 0)⟩
  have hb := h.o hA
  have hs1 := hs.o hA
  refine Does.enter (fn := Tryz.f21) (by kernel_rfl) rfl (by kernel_rfl) (by kernel_rfl) ?_
  conv => whnf
  refine VIf.dec (fun h1 => ?_) (fun h1 => ?_)
  · have hE : parseE l = 20 := if_pos (by omega)
    conv => whnf
    refine vStore.all (cs := pkC zeroP (none, 0) (none, 0)) b2 (by kernel_rfl) rfl (one_pkC _ _ _) (fun wz bz hoZ _ => ?_)
    conv => whnf
    refine ⟨_, Loads.all bz (by kernel_rfl) (by kernel_rfl), ?_⟩
    conv => whnf
    exact parse_fail hE (by decide) (hA.nw hoZ (Nat.le_refl _))
  have g1 : ¬ l.length < 20 := by omega
  obtain ⟨b, off, rfl, -⟩ := hb.some_ (by omega)
  have hc0 := u8_le (l.getD 0 0)
  have eh : IntKind.i64.wrap (IntKind.i64.wrap (((l.getD 0 0).toNat : Int).tmod 16) * 4) = ((headL l : Nat) : Int) := by
    have e1 : IntKind.i64.wrap (((l.getD 0 0).toNat : Int).tmod 16) = (((l.getD 0 0).toNat % 16 : Nat) : Int) := by
      rw [Int.tmod_eq_emod_of_nonneg (by omega), wi64]
      omega
    rw [e1, wi64]
    unfold headL
    omega
  conv => whnf
  refine ⟨_, _, rfl, 0, off + 0, rfl, by omega, p1 _ _, ?_⟩
  conv => whnf
  refine ⟨_, Loads.one (by kernel_rfl) (hb.ld (getD_some (by omega))), ?_⟩
  conv => whnf
  rw [eh]
  refine ⟨_, _, rfl, 0, off + 0, rfl, by omega, p1 _ _, ?_⟩
  conv => whnf
  refine ⟨_, Loads.one (by kernel_rfl) (hb.ld (getD_some (by omega))), ?_⟩
  conv => whnf
  have eq0 : IntKind.u8.wrap (((l.getD 0 0).toNat : Int).tdiv 16) = (((l.getD 0 0).toNat / 16 : Nat) : Int) := by
    rw [Int.tdiv_eq_ediv_of_nonneg (by omega), wr8]
    omega
  refine VIf.ne (fun h2 => ?_) (fun h2 => ?_)
  · rw [eq0] at h2
    have h2 : (l.getD 0 0).toNat / 16 ≠ 4 := by omega
    have hE : parseE l = 50 := by
      unfold parseE
      rw [if_neg g1, if_pos h2]
    conv => whnf
    refine vStore.all (cs := pkC zeroP (none, 0) (none, 0)) b2 (by kernel_rfl) rfl (one_pkC _ _ _) (fun wz bz hoZ _ => ?_)
    conv => whnf
    refine ⟨_, Loads.all bz (by kernel_rfl) (by kernel_rfl), ?_⟩
    conv => whnf
    exact parse_fail hE (by decide) (hA.nw hoZ (Nat.le_refl _))
  rw [eq0] at h2
  have g2 : ¬ (l.getD 0 0).toNat / 16 ≠ 4 := by omega
  conv => whnf
  refine VIf.dec (fun h3 => ?_) (fun h3 => ?_)
  · have h3 : headL l < 20 := by omega
    have hE : parseE l = 50 := by
      unfold parseE
      rw [if_neg g1, if_neg g2, if_pos h3]
    conv => whnf
    refine vStore.all (cs := pkC zeroP (none, 0) (none, 0)) b2 (by kernel_rfl) rfl (one_pkC _ _ _) (fun wz bz hoZ _ => ?_)
    conv => whnf
    refine ⟨_, Loads.all bz (by kernel_rfl) (by kernel_rfl), ?_⟩
    conv => whnf
    exact parse_fail hE (by decide) (hA.nw hoZ (Nat.le_refl _))
  have g3 : ¬ headL l < 20 := by omega
  conv => whnf
  refine VIf.dec (fun h4 => ?_) (fun h4 => ?_)
  · have h4 : l.length < headL l := by omega
    have hE : parseE l = 20 := by
      unfold parseE
      rw [if_neg g1, if_neg g2, if_neg g3, if_pos h4]
    conv => whnf
    refine vStore.all (cs := pkC zeroP (none, 0) (none, 0)) b2 (by kernel_rfl) rfl (one_pkC _ _ _) (fun wz bz hoZ _ => ?_)
    conv => whnf
    refine ⟨_, Loads.all bz (by kernel_rfl) (by kernel_rfl), ?_⟩
    conv => whnf
    exact parse_fail hE (by decide) (hA.nw hoZ (Nat.le_refl _))
  have g4 : ¬ l.length < headL l := by omega
  conv => whnf
  refine VDraw.abs fun N0 hN => ?_
  refine VDraw.q (by kernel_rfl) (by kernel_rfl) ?_
  conv => whnf
  refine ⟨_, _, rfl, 2, off + 2, rfl, by omega, p1 _ _, ?_⟩
  conv => whnf
  refine ⟨_, fun w' hw' => Loads.one (by kernel_rfl) ((hb.o hw').ld (getD_some (by omega))), ?_⟩
  conv => whnf
  refine ⟨_, _, rfl, 3, off + 3, rfl, by omega, p1 _ _, ?_⟩
  conv => whnf
  refine ⟨_, fun w' hw' => Loads.one (by kernel_rfl) ((hb.o hw').ld (getD_some (by omega))), ?_⟩
  conv => whnf
  intro w2 ho2
  conv => whnf
  refine hN _ _ ?_
  have b2 := b2.only ho2 (by simp)
  have hw2 := hA.t0 ho2
  have hb2 := hb.o ho2
  conv => whnf
  rw [size_e]
  refine VIf.ne (fun h5 => ?_) (fun h5 => ?_)
  · have h5 : wordL l 2 ≠ (l.length : Int) := by rw [hl]; exact h5
    have hE : parseE l = 51 := by
      unfold parseE
      rw [if_neg g1, if_neg g2, if_neg g3, if_neg g4, if_pos h5]
    conv => whnf
    refine vStore.all (cs := pkC zeroP (none, 0) (none, 0)) b2 (by kernel_rfl) rfl (one_pkC _ _ _) (fun wz bz hoZ _ => ?_)
    conv => whnf
    refine ⟨_, Loads.all bz (by kernel_rfl) (by kernel_rfl), ?_⟩
    conv => whnf
    exact parse_fail hE (by decide) (hw2.nw hoZ (Nat.le_refl _))
  have g5 : ¬ wordL l 2 ≠ (l.length : Int) := by rw [hl]; exact fun e => e h5
  have hcut := hb2.cut (lo := 0) (hi := headL l) (m := c) (by omega) (by omega) (by omega) rfl
  rw [List.drop_zero, Nat.sub_zero] at hcut
  conv => whnf
  refine ⟨0, headL l, c, rfl, rfl, rfl, by omega, by omega, by omega, _, headL l, c - 0, rfl, rfl, rfl, ?_⟩
  conv => whnf
  have h60 : headL l ≤ 60 := by unfold headL; omega
  refine (checked_does hcut (by omega) (by omega)).mono ?_
  rintro v w3 ⟨rfl, ho3⟩
  have b2 := b2.only ho3 (by simp)
  have hw3 := hw2.t0 ho3
  have hb3 := hb2.o ho3
  conv => whnf
  refine VIf.not (VIf.of (b := checkedL (l.take (headL l))) (fun h6 => ?_) (fun h6 => ?_))
  rotate_left
  · have h6 := h6
    have hE : parseE l = 52 := by
      unfold parseE
      rw [if_neg g1, if_neg g2, if_neg g3, if_neg g4, if_neg g5, if_pos h6]
    conv => whnf
    refine vStore.all (cs := pkC zeroP (none, 0) (none, 0)) b2 (by kernel_rfl) rfl (one_pkC _ _ _) (fun wz bz hoZ _ => ?_)
    conv => whnf
    refine ⟨_, Loads.all bz (by kernel_rfl) (by kernel_rfl), ?_⟩
    conv => whnf
    exact parse_fail hE (by decide) (hw3.nw hoZ (Nat.le_refl _))
  have g6 : ¬ checkedL (l.take (headL l)) = false := by rw [h6]; decide
  conv => whnf
  refine (read_does (head := headL l) hb3 (by omega) (by omega) hn).mono ?_
  have hlt3 := b2.lt
  rintro v w4 ⟨O, D, rfl, hp, ho4⟩
  have b2 := b2.only ho4 (by simp)
  have hw4 := hw3.t0 ho4
  conv => whnf
  refine vStore.fresh (cs := pkC (readP l (headL l)) O D) (by rw [pk_len hp.ok]; kernel_rfl) (by rw [pk_len hp.ok]; rfl) (one_pkC _ _ _) (fun w5 b5 ho5 hz5 => ?_)
  have b2 := b2.only ho5 (by simp)
  have hw5 := hw4.t0 ho5
  have hp := hp.o ho5
  conv => whnf
  refine VIf.ne (fun h7 => ?_) (fun h7 => ?_)
  · have h7 := h7
    have hE : parseE l = 50 := by
      unfold parseE
      rw [if_neg g1, if_neg g2, if_neg g3, if_neg g4, if_neg g5, if_neg g6, if_pos h7]
    conv => whnf
    refine vStore.all (cs := pkC zeroP (none, 0) (none, 0)) b2 (by kernel_rfl) rfl (one_pkC _ _ _) (fun wz bz hoZ _ => ?_)
    conv => whnf
    refine ⟨_, Loads.all bz (by kernel_rfl) (by kernel_rfl), ?_⟩
    conv => whnf
    exact parse_fail hE (by decide) (hw5.nw hoZ (Nat.le_refl _))
  have g7 : ¬ andI .u16 (flagF l) 32768 ≠ 0 := fun e => e h7
  conv => whnf
  refine ⟨_, b5.pkAll hp.ok, ?_⟩
  conv => whnf
  refine (placed_does hp.ok hp.dl).mono ?_
  rintro v w6 ⟨rfl, ho6⟩
  have b2 := b2.only ho6 (by simp)
  have b5 := b5.only ho6 (by simp)
  have hw6 := hw5.t0 ho6
  have hp := hp.o ho6
  conv => whnf
  refine VIf.not (VIf.of (b := placedP (readP l (headL l))) (fun h8 => ?_) (fun h8 => ?_))
  rotate_left
  · have h8 := h8
    have hE : parseE l = 50 := by
      unfold parseE
      rw [if_neg g1, if_neg g2, if_neg g3, if_neg g4, if_neg g5, if_neg g6, if_neg g7, if_pos h8]
    conv => whnf
    refine vStore.all (cs := pkC zeroP (none, 0) (none, 0)) b2 (by kernel_rfl) rfl (one_pkC _ _ _) (fun wz bz hoZ _ => ?_)
    conv => whnf
    refine ⟨_, Loads.all bz (by kernel_rfl) (by kernel_rfl), ?_⟩
    conv => whnf
    exact parse_fail hE (by decide) (hw6.nw hoZ (Nat.le_refl _))
  have g8 : ¬ placedP (readP l (headL l)) = false := by rw [h8]; decide
  conv => whnf
  refine ⟨_, Loads.one (by kernel_rfl) (b5.pkOpts hp.ok), ?_⟩
  obtain ⟨GO, hGO, -⟩ := hp.opts
  have hs6 := hs.o hw6
  conv => whnf
  refine (optsValid_does hGO hs6 hp.oc.1 hp.oc.2).mono ?_
  rintro v w7 ⟨rfl, ho7⟩
  have b2 := b2.only ho7 (by simp)
  have b5 := b5.only ho7 (by simp)
  have hw7 := hw6.t0 ho7
  have hp := hp.o ho7
  conv => whnf
  refine VIf.not (VIf.of (b := optsOk (readP l (headL l)).opts) (fun h9 => ?_) (fun h9 => ?_))
  rotate_left
  · have h9 := h9
    have hE : parseE l = 40 := by
      unfold parseE
      rw [if_neg g1, if_neg g2, if_neg g3, if_neg g4, if_neg g5, if_neg g6, if_neg g7, if_neg g8, if_pos h9]
    conv => whnf
    refine vStore.all (cs := pkC zeroP (none, 0) (none, 0)) b2 (by kernel_rfl) rfl (one_pkC _ _ _) (fun wz bz hoZ _ => ?_)
    conv => whnf
    refine ⟨_, Loads.all bz (by kernel_rfl) (by kernel_rfl), ?_⟩
    conv => whnf
    exact parse_fail hE (by decide) (hw7.nw hoZ (Nat.le_refl _))
  have g9 : ¬ optsOk (readP l (headL l)).opts = false := by rw [h9]; decide
  have hE : parseE l = 0 := by
    unfold parseE
    rw [if_neg g1, if_neg g2, if_neg g3, if_neg g4, if_neg g5, if_neg g6, if_neg g7, if_neg g8, if_neg g9]
  have hP : parseP l = readP l (headL l) := if_pos hE
  conv => whnf
  refine ⟨_, b5.pkAll hp.ok, ?_⟩
  conv => whnf
  refine vStore.all (cs := pkC (readP l (headL l)) O D) b2 (by rw [pk_len hp.ok]; kernel_rfl) (by rw [pk_len hp.ok]; rfl) (one_pkC _ _ _) (fun wz bz hoZ hzz => ?_)
  conv => whnf
  refine ⟨_, bz.pkAll hp.ok, ?_⟩
  conv => whnf
  rw [hE, hP]
  exact ⟨O, D, rfl, (hp.far hoZ hlt3).below (Nat.le_of_lt hlt3), hw7.nw hoZ (Nat.le_refl _)⟩
end Go.Proofs.YtofomopdaponbaaGreatDoor
