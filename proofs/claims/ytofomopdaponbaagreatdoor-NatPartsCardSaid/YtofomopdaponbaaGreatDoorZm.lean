/-
  What datagram lays is a right packet. Plain: no program in sight.
-/
import Derived.Test.YtofomopdaponbaaGreatDoorYNdg
import Derived.Test.YtofomopdaponbaaGreatDoorZk
namespace Go.Proofs.YtofomopdaponbaaGreatDoor
open Go.RowKit
set_option linter.unusedVariables false
set_option linter.unusedSimpArgs false

theorem word_of {v : Int} (h0 : 0 ≤ v) (h1 : v ≤ 65535) : ((hiB v).toNat : Int) * 256 + ((loB v).toNat : Int) = v := by
  rw [hiB_eq h0 h1, loB_eq h0]
  omega
theorem pack_eq {a b : Ad} {id : Int} {d : List UInt8} {s0 s1 s2 s3 t0 t1 t2 t3 : UInt8} (hs : a.2.take 4 = [s0, s1, s2, s3]) (ht : b.2.take 4 = [t0, t1, t2, t3]) :
    ∃ H : List UInt8, H = [69, 0, hiB (20 + d.length), loB (20 + d.length), hiB id, loB id, 0, 0, 64, 17, 0, 0, s0, s1, s2, s3, t0, t1, t2, t3] ∧
      packL (dgPk a b id d) = [69, 0, hiB (20 + d.length), loB (20 + d.length), hiB id, loB id, 0, 0, 64, 17, hiB (ofL H), loB (ofL H), s0, s1, s2, s3, t0, t1, t2, t3] ++ d := by
  refine ⟨_, rfl, ?_⟩
  have e : head0 (dgPk a b id d) (20 + (dgPk a b id d).opts.length) = [69, 0, hiB (20 + d.length), loB (20 + d.length), hiB id, loB id, 0, 0, 64, 17, 0, 0, s0, s1, s2, s3, t0, t1, t2, t3] := by
    have z : (20 : Int) + ((dgPk a b id d).opts.length : Int) = 20 := rfl
    rw [z]
    unfold head0
    rw [show (dgPk a b id d).src.2.take 4 = [s0, s1, s2, s3] from hs, show (dgPk a b id d).dst.2.take 4 = [t0, t1, t2, t3] from ht]
    have hf : flagsI (dgPk a b id d) = 0 := by simp [flagsI, dgPk]
    have c0 : loB ((64 + 20 / 4) % 256) = 69 := by decide
    have c1 : loB 0 = 0 := by decide
    have c2 : hiB 0 = 0 := by decide
    have c3 : loB 64 = 64 := by decide
    have c4 : loB 17 = 17 := by decide
    rw [hf, c0, c1, c2]
    simp [dgPk, c1, c3, c4]
  unfold packL
  rw [e]
  rfl
theorem pack_facts {a b : Ad} {id : Int} {d : List UInt8} (ha : Is4 a) (hb : Is4 b) (hid : 0 ≤ id ∧ id ≤ 65535) (hd0 : 0 < d.length) (hd : d.length ≤ 65515) :
    parseE (packL (dgPk a b id d)) = 0 ∧ parseP (packL (dgPk a b id d)) = dgPk a b id d ∧ headL (packL (dgPk a b id d)) = 20 ∧ (packL (dgPk a b id d)).length = 20 + d.length := by
  obtain ⟨h1, h2, h3⟩ := ha
  obtain ⟨g1, g2, g3⟩ := hb
  obtain ⟨s0, s1, s2, s3, hs⟩ : ∃ s0 s1 s2 s3, a.2.take 4 = [s0, s1, s2, s3] := by
    match hx : a.2.take 4, h3 with
    | [s0, s1, s2, s3], _ => exact ⟨s0, s1, s2, s3, rfl⟩
  obtain ⟨t0, t1, t2, t3, ht⟩ : ∃ s0 s1 s2 s3, b.2.take 4 = [s0, s1, s2, s3] := by
    match hx : b.2.take 4, g3 with
    | [s0, s1, s2, s3], _ => exact ⟨s0, s1, s2, s3, rfl⟩
  obtain ⟨H, hH, hp⟩ := pack_eq (id := id) (d := d) hs ht
  have hof := ofL_bd H
  have hz : zeroed H = H := by rw [hH]; rfl
  rw [hp]
  generalize hc1 : hiB (ofL H) = c1
  generalize hc2 : loB (ofL H) = c2
  have hn := word_of (v := 20 + (d.length : Int)) (by omega) (by omega)
  have hi := word_of hid.1 hid.2
  generalize hiB (20 + (d.length : Int)) = n1 at *
  generalize loB (20 + (d.length : Int)) = n2 at *
  generalize hiB id = i1 at *
  generalize loB id = i2 at *
  have hhead : headL ([69, 0, n1, n2, i1, i2, 0, 0, 64, 17, c1, c2, s0, s1, s2, s3, t0, t1, t2, t3] ++ d) = 20 := by
    show (69 : UInt8).toNat % 16 * 4 = 20
    decide
  have hlen : ([69, 0, n1, n2, i1, i2, 0, 0, 64, 17, c1, c2, s0, s1, s2, s3, t0, t1, t2, t3] ++ d).length = 20 + d.length := by simp; omega
  have hread : readP ([69, 0, n1, n2, i1, i2, 0, 0, 64, 17, c1, c2, s0, s1, s2, s3, t0, t1, t2, t3] ++ d) 20 = dgPk a b id d := by
    have e1 : (a : Ad) = (4, [s0, s1, s2, s3] ++ z12) := Prod.ext h1 (by rw [h2, hs])
    have e2 : (b : Ad) = (4, [t0, t1, t2, t3] ++ z12) := Prod.ext g1 (by rw [g2, ht])
    rw [e1, e2]
    have e3 : wordL ([69, 0, n1, n2, i1, i2, 0, 0, 64, 17, c1, c2, s0, s1, s2, s3, t0, t1, t2, t3] ++ d) 4 = id := hi
    have eF : flagF ([69, 0, n1, n2, i1, i2, 0, 0, 64, 17, c1, c2, s0, s1, s2, s3, t0, t1, t2, t3] ++ d) = 0 := by
      show (((0 : UInt8).toNat : Int) * 256 + ((0 : UInt8).toNat : Int)) = 0
      decide
    have u17 : (17 : UInt8).toNat = 17 := by decide
    have u64 : (64 : UInt8).toNat = 64 := by decide
    have u0 : (0 : UInt8).toNat = 0 := by decide
    have e0 : readP ([69, 0, n1, n2, i1, i2, 0, 0, 64, 17, c1, c2, s0, s1, s2, s3, t0, t1, t2, t3] ++ d) 20 = ⟨4, ((0 : UInt8).toNat : Int), 0, (4, [s0, s1, s2, s3] ++ z12), (4, [t0, t1, t2, t3] ++ z12), ((17 : UInt8).toNat : Int), ((64 : UInt8).toNat : Int), wordL ([69, 0, n1, n2, i1, i2, 0, 0, 64, 17, c1, c2, s0, s1, s2, s3, t0, t1, t2, t3] ++ d) 4, andI .u16 (flagF ([69, 0, n1, n2, i1, i2, 0, 0, 64, 17, c1, c2, s0, s1, s2, s3, t0, t1, t2, t3] ++ d)) 16384 != 0, andI .u16 (flagF ([69, 0, n1, n2, i1, i2, 0, 0, 64, 17, c1, c2, s0, s1, s2, s3, t0, t1, t2, t3] ++ d)) 8192 != 0, false, flagF ([69, 0, n1, n2, i1, i2, 0, 0, 64, 17, c1, c2, s0, s1, s2, s3, t0, t1, t2, t3] ++ d) % 8192 * 8, [], d⟩ := rfl
    rw [e0, e3, eF, u17, u64, u0]
    have a1 : (andI .u16 0 16384 != 0) = false := by decide
    have a2 : (andI .u16 0 8192 != 0) = false := by decide
    rw [a1, a2]
    rfl
  have hF : Facts ([69, 0, n1, n2, i1, i2, 0, 0, 64, 17, c1, c2, s0, s1, s2, s3, t0, t1, t2, t3] ++ d) := by
    refine ⟨by rw [hhead]; decide, by rw [hhead]; decide, by rw [hhead, hlen]; omega, show (69 : UInt8).toNat / 16 = 4 by decide, ?_, ?_, ?_, ?_, ?_⟩
    · rw [hlen]
      show ((n1.toNat : Int) * 256 + (n2.toNat : Int)) = _
      omega
    · rw [hhead]
      show checkedL [69, 0, n1, n2, i1, i2, 0, 0, 64, 17, c1, c2, s0, s1, s2, s3, t0, t1, t2, t3] = true
      have hzz : zeroed [69, 0, n1, n2, i1, i2, 0, 0, 64, 17, c1, c2, s0, s1, s2, s3, t0, t1, t2, t3] = H := by rw [hH]; rfl
      unfold checkedL
      rw [hzz]
      have q1 : ((c1.toNat : Int) = ofL H / 256) := by rw [← hc1]; exact hiB_eq hof.1 hof.2
      have q2 : ((c2.toNat : Int) = ofL H % 256) := by rw [← hc2]; exact loB_eq hof.1
      rw [Bool.and_eq_true]
      exact ⟨decide_eq_true q1, decide_eq_true q2⟩
    · have eF : flagF ([69, 0, n1, n2, i1, i2, 0, 0, 64, 17, c1, c2, s0, s1, s2, s3, t0, t1, t2, t3] ++ d) = 0 := by
        show (((0 : UInt8).toNat : Int) * 256 + ((0 : UInt8).toNat : Int)) = 0
        decide
      rw [eF]
      decide
    · rw [hhead, hread]
      unfold placedP withinI
      simp [dgPk]
      try omega
    · rw [hhead, hread]
      kernel_rfl
  have hE := parse_of hF
  refine ⟨hE, ?_, hhead, hlen⟩
  rw [parseP_of hE, hhead, hread]
end Go.Proofs.YtofomopdaponbaaGreatDoor
/-
  The sum of what udp.Build lays is right; changed at one byte it is wrong. Plain: no program in sight.
-/
namespace Go.Proofs.YtofomopdaponbaaGreatDoor
open Go.RowKit
set_option linter.unusedVariables false
set_option linter.unusedSimpArgs false

theorem udpE_iff {a b : Ad} {d : List UInt8} (hp : pairA a b = true) (h4 : a.1 = 4) (h8 : 8 ≤ d.length) : udpE a b d = 0 ↔ (wordL d 4 = d.length ∧ (d.length : Int) - 8 ≤ 65507 ∧ (wordL d 6 = 0 ∨ sumI a b d % 65535 = 0)) := by
  have hw := whole_iff (a := a) (b := b) (l := d) h4
  have hm : mostI a.1 = 65507 := by rw [h4]; rfl
  unfold udpE
  rw [hp, if_neg (by decide), if_neg (by omega), hm]
  split
  · rename_i g
    exact ⟨fun e => absurd e (by decide), fun e => by omega⟩
  rename_i g
  split
  · rename_i g2
    refine ⟨fun e => absurd e (by decide), fun e => ?_⟩
    rcases g2 with g2 | g2
    · omega
    · rcases e.2.2 with e1 | e1
      · exact absurd e1 g2.1
      · exact absurd (hw.2 e1) g2.2
  · rename_i g2
    refine ⟨fun _ => ⟨by omega, by omega, ?_⟩, fun _ => rfl⟩
    by_cases h6 : wordL d 6 = 0
    · exact .inl h6
    · refine .inr (hw.1 (Classical.byContradiction fun hn => g2 (.inr ⟨h6, hn⟩)))
theorem dat0_words {sp dp : Int} {l : List UInt8} (h1 : 0 ≤ sp ∧ sp ≤ 65535) (h2 : 0 ≤ dp ∧ dp ≤ 65535) (hl : l.length ≤ 65507) :
    wordL (dat0 sp dp l) 0 = sp ∧ wordL (dat0 sp dp l) 2 = dp ∧ wordL (dat0 sp dp l) 4 = 8 + l.length ∧ wordL (dat0 sp dp l) 6 = 0 ∧ (dat0 sp dp l).drop 8 = l := by
  have e1 := word_of h1.1 h1.2
  have e2 := word_of h2.1 h2.2
  have e3 := word_of (v := 8 + (l.length : Int)) (by omega) (by omega)
  have e4 : ((hiB 0).toNat : Int) * 256 + ((loB 0).toNat : Int) = 0 := by decide
  exact ⟨e1, e2, e3, e4, rfl⟩
theorem sumI_setW {a b : Ad} {d : List UInt8} {v : Int} (hd : 8 ≤ d.length) (h0 : 0 ≤ v) (h1 : v ≤ 65535) : sumI a b (setW d 6 v) = sumI a b d - wordL d 6 + v := by
  have := wsum_setW 3 d v (by omega) h0 h1
  rw [show 2 * 3 = 6 from rfl] at this
  unfold sumI
  rw [setW_len, this]
  omega
theorem sumI_pos (a b : Ad) (d : List UInt8) : 0 < sumI a b d := by
  have p1 := (wsum_le (a.2.take 4)).1
  have p2 := (wsum_le (b.2.take 4)).1
  have p3 := (wsum_le d).1
  unfold sumI
  omega
theorem whole_mod {a b : Ad} {d : List UInt8} (h4 : a.1 = 4) : (wholeI a b d - sumI a b d) % 65535 = 0 ∧ 0 ≤ wholeI a b d ∧ wholeI a b d ≤ 65535 := by
  have hN : longN a = 4 := if_pos h4
  have p1 := wsum_le (a.2.take 4)
  have p2 := wsum_le (b.2.take 4)
  have p3 := wsum_le d
  unfold wholeI pseudoI sumI
  rw [hN]
  unfold partL
  generalize wsum (a.2.take 4) = x at *
  generalize wsum (b.2.take 4) = y at *
  generalize wsum d = z at *
  have f1 := foldI_bd p1.1
  have f2 := foldI_bd p2.1
  have f3 := foldI_bd p3.1
  have m1 := foldI_mod p1.1
  have m2 := foldI_mod p2.1
  have m3 := foldI_mod p3.1
  generalize foldI x = fx at *
  generalize foldI y = fy at *
  generalize foldI z = fz at *
  have b1 := addI_bd f1.1 f2.1
  have n1 := addI_mod (a := fx) (b := fy) (by omega)
  generalize addI fx fy = g1 at *
  have b2 := addI_bd b1.1 (show (0 : Int) ≤ 17 by decide)
  have n2 := addI_mod (a := g1) (b := 17) (by omega)
  generalize addI g1 17 = g2 at *
  have b3 := addI_bd b2.1 (Int.natCast_nonneg d.length)
  have n3 := addI_mod (a := g2) (b := (d.length : Int)) (by omega)
  generalize addI g2 (d.length : Int) = g3 at *
  have b4 := addI_bd b3.1 f3.1
  have n4 := addI_mod (a := g3) (b := fz) (by omega)
  generalize addI g3 fz = g4 at *
  omega
/-- What udp.Build lays. -/
theorem datL_right {a b : Ad} {d : Dg} (hp : pairA a b = true) (h4 : a.1 = 4) (h1 : 0 ≤ d.sport ∧ d.sport ≤ 65535) (h2 : 0 ≤ d.dport ∧ d.dport ≤ 65535) (hl : d.data.length ≤ 65507) :
    udpE a b (datL a b d) = 0 ∧ udpP a b (datL a b d) = d ∧ (d.nosum = false → 1 ≤ wordL (datL a b d) 6 ∧ sumI a b (datL a b d) % 65535 = 0) := by
  obtain ⟨sp, dp, ns, l⟩ := d
  dsimp only at h1 h2 hl ⊢
  obtain ⟨w0, w2, w4, w6, w8⟩ := dat0_words h1 h2 hl
  have hlen := dat0_len sp dp l
  cases ns with
  | true =>
    have e : datL a b ⟨sp, dp, true, l⟩ = dat0 sp dp l := rfl
    rw [e]
    have hE := (udpE_iff hp h4 (d := dat0 sp dp l) (by omega)).2 ⟨by rw [w4, hlen]; omega, by omega, .inl w6⟩
    refine ⟨hE, ?_, fun h => Bool.noConfusion h⟩
    unfold udpP
    rw [if_pos hE, w0, w2, w6, w8]
    rfl
  | false =>
    have e : datL a b ⟨sp, dp, false, l⟩ = setW (dat0 sp dp l) 6 (sumOf a b (dat0 sp dp l)) := rfl
    have hw := whole_mod (a := a) (b := b) (d := dat0 sp dp l) h4
    have hc : 1 ≤ sumOf a b (dat0 sp dp l) ∧ sumOf a b (dat0 sp dp l) ≤ 65535 ∧ (sumOf a b (dat0 sp dp l) + sumI a b (dat0 sp dp l)) % 65535 = 0 := by
      unfold sumOf
      split <;> omega
    rw [e]
    generalize sumOf a b (dat0 sp dp l) = c at *
    have v6 : wordL (setW (dat0 sp dp l) 6 c) 6 = c := wordL_setW (by omega) (by omega) hc.2.1
    have v4 : wordL (setW (dat0 sp dp l) 6 c) 4 = 8 + l.length := (wordL_setW_ne (by omega)).trans w4
    have v2 : wordL (setW (dat0 sp dp l) 6 c) 2 = dp := (wordL_setW_ne (by omega)).trans w2
    have v0 : wordL (setW (dat0 sp dp l) 6 c) 0 = sp := (wordL_setW_ne (by omega)).trans w0
    have vl : (setW (dat0 sp dp l) 6 c).length = 8 + l.length := by rw [setW_len, hlen]
    have v8 : (setW (dat0 sp dp l) 6 c).drop 8 = l := by
      rw [setW_drop_lt (by omega)]
      exact w8
    have hs : sumI a b (setW (dat0 sp dp l) 6 c) % 65535 = 0 := by
      rw [sumI_setW (by omega) (by omega) hc.2.1, w6]
      omega
    have hE := (udpE_iff hp h4 (d := setW (dat0 sp dp l) 6 c) (by omega)).2 ⟨by rw [v4, vl]; omega, by omega, .inr hs⟩
    refine ⟨hE, ?_, fun _ => ⟨by rw [v6]; exact hc.1, hs⟩⟩
    unfold udpP
    rw [if_pos hE, v0, v2, v6, v8, decide_eq_false (by omega)]
theorem xorB_nat (c : UInt8) {k : Nat} (hk : k ≤ 255) : (xorB c (k : Int)).toNat = c.toNat ^^^ k := by
  have hc : c.toNat ≤ 255 := by have := c.toNat_lt; omega
  have e : IntKind.u8.wrap (k : Int) = (k : Int) := by rw [wr8]; omega
  have hx : c.toNat ^^^ k < 256 := Nat.xor_lt_two_pow (n := 8) (by omega) (by omega)
  unfold xorB
  rw [e, xorI_nat .u8 _ _ (by simp only [maxN]; exact hc) (by simp only [maxN]; exact hk)]
  simp only [Int.toNat_natCast, UInt8.toNat_ofNat']
  exact Nat.mod_eq_of_lt hx
theorem xor_ne {a k : Nat} (h : k ≠ 0) : a ^^^ k ≠ a := fun e => h (by
  have h1 : a ^^^ (a ^^^ k) = a ^^^ a := by rw [e]
  rw [← Nat.xor_assoc, Nat.xor_self, Nat.zero_xor] at h1
  exact h1)
theorem xor_zero {a k : Nat} (h : a ^^^ k = 0) : a = k := by
  have h1 : (a ^^^ k) ^^^ k = 0 ^^^ k := by rw [h]
  rwa [Nat.xor_assoc, Nat.xor_self, Nat.xor_zero, Nat.zero_xor] at h1
theorem set6_setW {d : List UInt8} {x : UInt8} (hd : 8 ≤ d.length) : d.set 6 x = setW d 6 ((x.toNat : Int) * 256 + ((d.getD 7 0).toNat : Int)) := by
  have hx := x.toNat_lt
  have h7 := (d.getD 7 0).toNat_lt
  have e1 : hiB ((x.toNat : Int) * 256 + ((d.getD 7 0).toNat : Int)) = x := by
    refine UInt8.toNat_inj.1 ?_
    have := hiB_eq (v := (x.toNat : Int) * 256 + ((d.getD 7 0).toNat : Int)) (by omega) (by omega)
    omega
  have e2 : loB ((x.toNat : Int) * 256 + ((d.getD 7 0).toNat : Int)) = d.getD 7 0 := by
    refine UInt8.toNat_inj.1 ?_
    have := loB_eq (v := (x.toNat : Int) * 256 + ((d.getD 7 0).toNat : Int)) (by omega)
    omega
  unfold setW
  rw [e1, e2]
  refine List.ext_getElem? fun j => ?_
  rw [List.getElem?_set (i := 6 + 1)]
  split
  · rename_i h
    subst h
    rw [List.length_set, if_pos (by omega), List.getElem?_set_ne (by decide), getD_some (by omega)]
  · rfl
theorem set6_wrong {a b : Ad} {d : List UInt8} {x : UInt8} (hp : pairA a b = true) (h4 : a.1 = 4) (hd : 8 ≤ d.length) (hs : sumI a b d % 65535 = 0) (hx : x ≠ d.getD 6 0) (hn : ¬ (x = 0 ∧ d.getD 7 0 = 0)) : udpE a b (d.set 6 x) ≠ 0 := by
  have hxl := x.toNat_lt
  have h6 := (d.getD 6 0).toNat_lt
  have h7 := (d.getD 7 0).toNat_lt
  have hne : x.toNat ≠ (d.getD 6 0).toNat := fun e => hx (UInt8.toNat_inj.1 e)
  have hw : wordL d 6 = ((d.getD 6 0).toNat : Int) * 256 + ((d.getD 7 0).toNat : Int) := rfl
  have hz : ¬ ((x.toNat : Int) * 256 + ((d.getD 7 0).toNat : Int) = 0) := fun e => hn ⟨UInt8.toNat_inj.1 (show x.toNat = 0 by omega), UInt8.toNat_inj.1 (show (d.getD 7 0).toNat = 0 by omega)⟩
  intro hE
  rw [set6_setW hd] at hE
  have h3 := ((udpE_iff hp h4 (d := setW d 6 ((x.toNat : Int) * 256 + ((d.getD 7 0).toNat : Int))) (by rw [setW_len]; omega)).1 hE).2.2
  rw [wordL_setW (by omega) (by omega) (by omega), sumI_setW (by omega) (by omega) (by omega), hw] at h3
  rcases h3 with h3 | h3
  · exact hz h3
  · omega
/-- A sum that was made wrong is wrong. -/
theorem kindL_wrong {a b : Ad} {d : List UInt8} {k : Nat} (hk : k = 2 ∨ k = 3) (hp : pairA a b = true) (h4 : a.1 = 4) (hd : 8 ≤ d.length) (hs : sumI a b d % 65535 = 0) : udpE a b (kindL d (k : Int)) ≠ 0 := by
  have hx := xorB_nat (d.getD 6 0) (k := k) (by omega)
  have hne : (xorB (d.getD 6 0) (k : Int)).toNat ≠ (d.getD 6 0).toNat := by
    rw [hx]
    exact xor_ne (by omega)
  have hne' : xorB (d.getD 6 0) (k : Int) ≠ d.getD 6 0 := fun e => hne (by rw [e])
  have e6 : (d.set 6 (xorB (d.getD 6 0) (k : Int))).getD 6 0 = xorB (d.getD 6 0) (k : Int) := by
    rw [List.getD_eq_getElem?_getD, List.getElem?_set_self (by omega)]
    rfl
  have e7 : (d.set 6 (xorB (d.getD 6 0) (k : Int))).getD 7 0 = d.getD 7 0 := by
    rw [List.getD_eq_getElem?_getD, List.getElem?_set_ne (by decide), ← List.getD_eq_getElem?_getD]
  unfold kindL
  rw [if_pos (by omega), e6, e7]
  split
  · rename_i hz
    rw [List.set_set]
    have h0 : (d.getD 6 0).toNat = k := xor_zero (by rw [← hx, hz.1]; rfl)
    refine set6_wrong hp h4 hd hs (fun e => ?_) (fun h => absurd h.1 (by decide))
    have := congrArg UInt8.toNat e
    rw [h0] at this
    have h44 : (4 : UInt8).toNat = 4 := by decide
    omega
  · rename_i hz
    exact set6_wrong hp h4 hd hs hne' hz
theorem kindL_low (d : List UInt8) {k : Int} (hk : k ≤ 1) : kindL d k = d := if_neg (by omega)
end Go.Proofs.YtofomopdaponbaaGreatDoor
