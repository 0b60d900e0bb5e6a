/-
  A right packet that is laid is taken apart into itself. Plain: no program in sight.
-/
import Derived.Test.YtofomopdaponbaaGreatDoorZm
namespace Go.Proofs.YtofomopdaponbaaGreatDoor
open Go.RowKit
set_option linter.unusedVariables false
set_option linter.unusedSimpArgs false

theorem orP (m : Nat) {x y : Nat} (hy : y = 2 ^ m) (hx : x < y) : x ||| y = x + y := by
  subst hy
  have h := Nat.two_pow_add_eq_or_of_lt hx 1
  rw [Nat.mul_one] at h
  rw [Nat.or_comm, Nat.add_comm]
  exact h.symm
theorem or14 {x : Nat} (hx : x < 16384) : x ||| 16384 = x + 16384 := orP 14 (by decide) hx
theorem or13 {x : Nat} (hx : x < 8192) : x ||| 8192 = x + 8192 := orP 13 (by decide) hx
theorem or1413 {x : Nat} (hx : x < 8192) : (x + 16384) ||| 8192 = x + 8192 + 16384 := by
  have h1 := or14 (x := x) (by omega)
  have h2 := or13 (x := x) hx
  have h3 := or14 (x := x + 8192) (by omega)
  have h4 : (x ||| 16384) ||| 8192 = (x ||| 8192) ||| 16384 := by rw [Nat.or_assoc, Nat.or_comm 16384 8192, ← Nat.or_assoc]
  rw [h1, h2, h3] at h4
  exact h4
theorem flags_val {p : Pk} (h0 : 0 ≤ p.off) (h1 : p.off ≤ 65528) : flagsI p = p.off / 8 + (if p.df = true then 16384 else 0) + (if p.more = true then 8192 else 0) := by
  obtain ⟨x, hx⟩ : ∃ x : Nat, p.off / 8 = x := ⟨(p.off / 8).toNat, by omega⟩
  have hx1 : x < 8192 := by omega
  have e : maxN .u16 = 65535 := rfl
  have k1 : orI .u16 (x : Int) 16384 = ((x + 16384 : Nat) : Int) := (orI_nat .u16 x 16384 (by omega) (by omega)).trans (by rw [or14 (by omega)])
  have k2 : orI .u16 (x : Int) 8192 = ((x + 8192 : Nat) : Int) := (orI_nat .u16 x 8192 (by omega) (by omega)).trans (by rw [or13 hx1])
  have k3 : orI .u16 ((x + 16384 : Nat) : Int) 8192 = ((x + 8192 + 16384 : Nat) : Int) := (orI_nat .u16 (x + 16384) 8192 (by omega) (by omega)).trans (by rw [or1413 hx1])
  unfold flagsI
  rw [hx]
  cases p.df <;> cases p.more <;> simp only [if_true, if_false, Bool.false_eq_true, k1, k2, k3] <;> omega
theorem is4_of {a : Ad} (ok : okAd a) (h : fourA a = true) : Is4 a := by
  unfold fourA at h
  simp only [Bool.and_eq_true, decide_eq_true_eq] at h
  obtain ⟨h1, h2⟩ := h
  unfold validA bitsA at h2
  rw [if_pos h1] at h2
  have hall : (a.2.drop 4).all (fun c => c == 0) = true := by
    cases hx : (a.2.drop 4).all (fun c => c == 0)
    · rw [hx] at h2
      simp at h2
    · rfl
  have hl := ok.2.2
  refine ⟨h1, ?_, by rw [List.length_take]; omega⟩
  have hd : a.2.drop 4 = z12 := by
    have hdl : (a.2.drop 4).length = 12 := by rw [List.length_drop]; omega
    refine List.eq_replicate_iff.2 ⟨hdl, fun c hc => ?_⟩
    simpa using List.all_eq_true.1 hall c hc
  rw [← hd]
  exact (List.take_append_drop 4 a.2).symm
theorem u8_of {v : Int} (h0 : 0 ≤ v) (h1 : v ≤ 255) : ((loB v).toNat : Int) = v := by rw [loB_eq h0]; omega
theorem four_of {l : List UInt8} (h : l.length = 4) : ∃ a b c d, l = [a, b, c, d] := by
  match l, h with
  | [a, b, c, d], _ => exact ⟨a, b, c, d, rfl⟩
theorem andBit {x : Int} (h0 : 0 ≤ x) (h1 : x ≤ 65535) (m : Nat) (hm : m ≤ 15) : (andI .u16 x ((2 ^ m : Nat) : Int) != 0) = decide (x / ((2 ^ m : Nat) : Int) % 2 = 1) := by
  have hp : 2 ^ m ≤ 32768 := Nat.pow_le_pow_right (by decide) hm
  have hp0 : 0 < 2 ^ m := Nat.pow_pos (by decide)
  have e : maxN .u16 = 65535 := rfl
  rw [andI_bit .u16 x m h0 (by omega) (by omega)]
  have h2 : x / ((2 ^ m : Nat) : Int) % 2 = 0 ∨ x / ((2 ^ m : Nat) : Int) % 2 = 1 := by omega
  rcases h2 with h | h
  · rw [h, Int.zero_mul]; rfl
  · rw [h]
    rw [Bool.eq_iff_iff, bne_iff_ne, decide_eq_true_iff]
    constructor
    · intro _; trivial
    · intro _; omega
theorem pack_any {p : Pk} (ok : okPk p) (hr : rightP p = true) (hi : 0 ≤ p.id) :
    parseE (packL p) = 0 ∧ parseP (packL p) = p ∧ headL (packL p) = 20 + p.opts.length ∧ (packL p).length = 20 + p.opts.length + p.data.length := by
  have hR := rgt_of hr
  have hr2 := hr
  unfold rightP at hr2
  simp only [Bool.and_eq_true, decide_eq_true_eq] at hr2
  obtain ⟨⟨⟨⟨⟨⟨⟨⟨⟨⟨⟨r1, r2⟩, r3⟩, r4⟩, r5⟩, r6⟩, r7⟩, r8⟩, r9⟩, r10⟩, r11⟩, r12⟩ := hr2
  obtain ⟨a1, a2, a3⟩ := is4_of ok.src r5
  obtain ⟨b1, b2, b3⟩ := is4_of ok.dst r6
  obtain ⟨s0, s1, s2, s3, hs⟩ := four_of a3
  obtain ⟨t0, t1, t2, t3, ht⟩ := four_of b3
  have hop : p.opts.length ≤ 40 ∧ p.opts.length % 4 = 0 := by
    unfold optsOk at r11
    simp only [Bool.and_eq_true, decide_eq_true_eq] at r11
    exact r11.1
  have hfv := flags_val hR.off.1 hR.off.2
  have hfb := flagsI_bd hR.off
  have hb0 : loB ((64 + (20 + (p.opts.length : Int)) / 4) % 256) = UInt8.ofNat (64 + (20 + p.opts.length) / 4) := by
    unfold loB
    congr 1
    omega
  obtain ⟨E, hE⟩ : ∃ E : List UInt8, E = [UInt8.ofNat (64 + (20 + p.opts.length) / 4), loB p.tos, hiB (20 + p.opts.length + p.data.length), loB (20 + p.opts.length + p.data.length), hiB p.id, loB p.id, hiB (flagsI p), loB (flagsI p), loB p.ttl, loB p.proto, 0, 0, s0, s1, s2, s3, t0, t1, t2, t3] := ⟨_, rfl⟩
  have hH : head0 p (20 + p.opts.length) = E ++ p.opts := by
    have z1 : hiB 0 = 0 := by decide
    have z2 : loB 0 = 0 := by decide
    unfold head0
    rw [hs, ht, hb0, z1, z2, hE]
    simp
  have hP : packL p = ([UInt8.ofNat (64 + (20 + p.opts.length) / 4), loB p.tos, hiB (20 + p.opts.length + p.data.length), loB (20 + p.opts.length + p.data.length), hiB p.id, loB p.id, hiB (flagsI p), loB (flagsI p), loB p.ttl, loB p.proto, hiB (ofL (E ++ p.opts)), loB (ofL (E ++ p.opts)), s0, s1, s2, s3, t0, t1, t2, t3] ++ p.opts) ++ p.data := by
    unfold packL
    rw [hH]
    generalize ofL (E ++ p.opts) = x
    rw [hE]
    rfl
  have hof := ofL_bd (E ++ p.opts)
  have hz : zeroed (E ++ p.opts) = E ++ p.opts := by rw [hE]; rfl
  have hw2 := word_of (v := 20 + (p.opts.length : Int) + (p.data.length : Int)) (by omega) (by omega)
  have hw4 := word_of hi hR.id
  have hw6 := word_of hfb.1 hfb.2
  have ht1 := u8_of hR.tos.1 hR.tos.2
  have hp1 := u8_of hR.proto.1 hR.proto.2
  have hl1 := u8_of hR.ttl.1 hR.ttl.2
  have hc1 := hiB_eq hof.1 hof.2
  have hc2 := loB_eq hof.1
  obtain ⟨B0, hB0⟩ : ∃ B0, UInt8.ofNat (64 + (20 + p.opts.length) / 4) = B0 := ⟨_, rfl⟩
  have hB : B0.toNat = 64 + (20 + p.opts.length) / 4 := by
    rw [← hB0, UInt8.toNat_ofNat']
    omega
  rw [hB0] at hE hP
  generalize hiB (20 + (p.opts.length : Int) + (p.data.length : Int)) = n1 at *
  generalize loB (20 + (p.opts.length : Int) + (p.data.length : Int)) = n2 at *
  generalize hiB p.id = i1 at *
  generalize loB p.id = i2 at *
  generalize hiB (flagsI p) = f1 at *
  generalize loB (flagsI p) = f2 at *
  generalize loB p.tos = T at *
  generalize loB p.proto = R at *
  generalize loB p.ttl = L at *
  generalize hx1 : hiB (ofL (E ++ p.opts)) = x1 at *
  generalize hx2 : loB (ofL (E ++ p.opts)) = x2 at *
  obtain ⟨Q, hQ⟩ : ∃ Q, packL p = Q := ⟨_, rfl⟩
  rw [hQ] at hP ⊢
  have hlen : Q.length = 20 + p.opts.length + p.data.length := by rw [hP]; simp; omega
  have hhead : headL Q = 20 + p.opts.length := by
    rw [hP]
    show B0.toNat % 16 * 4 = _
    omega
  have w6 : wordL Q 6 = flagsI p := by rw [hP]; exact hw6
  have h20 : Q.drop 20 = p.opts ++ p.data := by rw [hP]; simp
  have hread : readP Q (20 + p.opts.length) = p := by
    have q1 : ((Q.getD 1 0).toNat : Int) = p.tos := by rw [hP]; exact ht1
    have q2 : ((4, (Q.drop 12).take 4 ++ z12) : Ad) = p.src := by rw [hP]; exact Prod.ext a1.symm (by rw [a2, hs]; rfl)
    have q3 : ((4, (Q.drop 16).take 4 ++ z12) : Ad) = p.dst := by rw [hP]; exact Prod.ext b1.symm (by rw [b2, ht]; rfl)
    have q4 : ((Q.getD 9 0).toNat : Int) = p.proto := by rw [hP]; exact hp1
    have q5 : ((Q.getD 8 0).toNat : Int) = p.ttl := by rw [hP]; exact hl1
    have q6 : wordL Q 4 = p.id := by rw [hP]; exact hw4
    have q7 : (andI .u16 (flagF Q) 16384 != 0) = p.df := by
      unfold flagF
      rw [w6]
      rw [show (16384 : Int) = ((2 ^ 14 : Nat) : Int) from rfl, andBit hfb.1 hfb.2 14 (by decide), hfv]
      have := hR.off
      cases p.df <;> cases p.more <;> simp only [if_true, if_false, Bool.false_eq_true, decide_eq_true_eq, decide_eq_false_iff_not] <;> omega
    have q8 : (andI .u16 (flagF Q) 8192 != 0) = p.more := by
      unfold flagF
      rw [w6]
      rw [show (8192 : Int) = ((2 ^ 13 : Nat) : Int) from rfl, andBit hfb.1 hfb.2 13 (by decide), hfv]
      have := hR.off
      cases p.df <;> cases p.more <;> simp only [if_true, if_false, Bool.false_eq_true, decide_eq_true_eq, decide_eq_false_iff_not] <;> omega
    have q9 : flagF Q % 8192 * 8 = p.off := by
      have hoff8 : p.off % 8 = 0 := by
        unfold placedP at r10
        simp only [Bool.and_eq_true, decide_eq_true_eq] at r10
        exact r10.1.1.1.2
      unfold flagF
      rw [w6, hfv]
      have := hR.off
      cases p.df <;> cases p.more <;> simp only [if_true, if_false, Bool.false_eq_true] <;> omega
    have q10 : (Q.drop 20).take (20 + p.opts.length - 20) = p.opts := by
      rw [h20, Nat.add_sub_cancel_left]
      exact List.take_left' rfl
    have q11 : Q.drop (20 + p.opts.length) = p.data := by
      rw [← List.drop_drop, h20]
      exact List.drop_left' rfl
    unfold readP
    rw [q1, q2, q3, q4, q5, q6, q7, q8, q9, q10, q11]
    obtain ⟨v, tos, flow, src, dst, proto, ttl, id, df, more, frag, off, opts, data⟩ := p
    dsimp only at r1 r2 r3 ⊢
    have r3 : frag = false := by simpa using r3
    rw [r1, r2, r3]
  have hF : Facts Q := by
    refine ⟨by omega, by omega, by omega, ?_, ?_, ?_, ?_, by rw [hhead, hread]; exact r10, by rw [hhead, hread]; exact r11⟩
    · rw [hP]
      show B0.toNat / 16 = 4
      omega
    · rw [hlen, hP]
      show ((n1.toNat : Int) * 256 + (n2.toNat : Int)) = _
      omega
    · have htk : Q.take (headL Q) = [B0, T, n1, n2, i1, i2, f1, f2, L, R, x1, x2, s0, s1, s2, s3, t0, t1, t2, t3] ++ p.opts := by
        rw [hhead, hP]
        exact List.take_left' (by simp; omega)
      rw [htk]
      have hzz : zeroed ([B0, T, n1, n2, i1, i2, f1, f2, L, R, x1, x2, s0, s1, s2, s3, t0, t1, t2, t3] ++ p.opts) = E ++ p.opts := by rw [hE]; rfl
      unfold checkedL
      rw [hzz, Bool.and_eq_true]
      exact ⟨decide_eq_true hc1, decide_eq_true hc2⟩
    · unfold flagF
      rw [w6, show (32768 : Int) = ((2 ^ 15 : Nat) : Int) from rfl]
      have h := andBit hfb.1 hfb.2 15 (by decide)
      have hd : decide (flagsI p / ((2 ^ 15 : Nat) : Int) % 2 = 1) = false := by
        rw [hfv]
        have := hR.off
        cases p.df <;> cases p.more <;> simp only [if_true, if_false, Bool.false_eq_true, decide_eq_false_iff_not] <;> omega
      rw [hd] at h
      intro hne
      have h2 := bne_iff_ne.2 hne
      rw [h] at h2
      cases h2
  have hE0 := parse_of hF
  exact ⟨hE0, by rw [parseP_of hE0, hhead, hread], hhead, hlen⟩
end Go.Proofs.YtofomopdaponbaaGreatDoor
