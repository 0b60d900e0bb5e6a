/-
  A right packet that is laid is taken apart into itself. Plain: no program in sight.
-/
import Derived.Test.YtofomopdaponbaaGreatDoorZm
import Derived.Test.YtofomopdaponbaaGreatDoorZp
import Derived.Test.YtofomopdaponbaaGreatDoorYNdg
import Derived.Test.YtofomopdaponbaaGreatDoorZh
namespace Go.Proofs.YtofomopdaponbaaGreatDoor
open Go.RowKit
set_option linter.unusedVariables false
set_option linter.unusedSimpArgs false

theorem orP (m : Nat) {x y : Nat} (hy : y = 2 ^ m) (hx : x < y) : x ||| y = x + y := by
  subst hy
  have h := Nat.two_pow_add_eq_or_of_lt hx 1
  rw [Nat.mul_one] at h
  rw [Nat.or_comm, Nat.add_comm]
  exact h.symm
theorem or14 {x : Nat} (hx : x < 16384) : x ||| 16384 = x + 16384 := orP 14 (by decide) hx
theorem or13 {x : Nat} (hx : x < 8192) : x ||| 8192 = x + 8192 := orP 13 (by decide) hx
theorem or1413 {x : Nat} (hx : x < 8192) : (x + 16384) ||| 8192 = x + 8192 + 16384 := by
  have h1 := or14 (x := x) (by omega)
  have h2 := or13 (x := x) hx
  have h3 := or14 (x := x + 8192) (by omega)
  have h4 : (x ||| 16384) ||| 8192 = (x ||| 8192) ||| 16384 := by rw [Nat.or_assoc, Nat.or_comm 16384 8192, ← Nat.or_assoc]
  rw [h1, h2, h3] at h4
  exact h4
theorem flags_val {p : Pk} (h0 : 0 ≤ p.off) (h1 : p.off ≤ 65528) : flagsI p = p.off / 8 + (if p.df = true then 16384 else 0) + (if p.more = true then 8192 else 0) := by
  obtain ⟨x, hx⟩ : ∃ x : Nat, p.off / 8 = x := ⟨(p.off / 8).toNat, by omega⟩
  have hx1 : x < 8192 := by omega
  have e : maxN .u16 = 65535 := rfl
  have k1 : orI .u16 (x : Int) 16384 = ((x + 16384 : Nat) : Int) := (orI_nat .u16 x 16384 (by omega) (by omega)).trans (by rw [or14 (by omega)])
  have k2 : orI .u16 (x : Int) 8192 = ((x + 8192 : Nat) : Int) := (orI_nat .u16 x 8192 (by omega) (by omega)).trans (by rw [or13 hx1])
  have k3 : orI .u16 ((x + 16384 : Nat) : Int) 8192 = ((x + 8192 + 16384 : Nat) : Int) := (orI_nat .u16 (x + 16384) 8192 (by omega) (by omega)).trans (by rw [or1413 hx1])
  unfold flagsI
  rw [hx]
  cases p.df <;> cases p.more <;> simp only [if_true, if_false, Bool.false_eq_true, k1, k2, k3] <;> omega
theorem is4_of {a : Ad} (ok : okAd a) (h : fourA a = true) : Is4 a := by
  unfold fourA at h
  simp only [Bool.and_eq_true, decide_eq_true_eq] at h
  obtain ⟨h1, h2⟩ := h
  unfold validA bitsA at h2
  rw [if_pos h1] at h2
  have hall : (a.2.drop 4).all (fun c => c == 0) = true := by
    cases hx : (a.2.drop 4).all (fun c => c == 0)
    · rw [hx] at h2
      simp at h2
    · rfl
  have hl := ok.2.2
  refine ⟨h1, ?_, by rw [List.length_take]; omega⟩
  have hd : a.2.drop 4 = z12 := by
    have hdl : (a.2.drop 4).length = 12 := by rw [List.length_drop]; omega
    refine List.eq_replicate_iff.2 ⟨hdl, fun c hc => ?_⟩
    simpa using List.all_eq_true.1 hall c hc
  rw [← hd]
  exact (List.take_append_drop 4 a.2).symm
theorem u8_of {v : Int} (h0 : 0 ≤ v) (h1 : v ≤ 255) : ((loB v).toNat : Int) = v := by rw [loB_eq h0]; omega
theorem four_of {l : List UInt8} (h : l.length = 4) : ∃ a b c d, l = [a, b, c, d] := by
  match l, h with
  | [a, b, c, d], _ => exact ⟨a, b, c, d, rfl⟩
theorem andBit {x : Int} (h0 : 0 ≤ x) (h1 : x ≤ 65535) (m : Nat) (hm : m ≤ 15) : (andI .u16 x ((2 ^ m : Nat) : Int) != 0) = decide (x / ((2 ^ m : Nat) : Int) % 2 = 1) := by
  have hp : 2 ^ m ≤ 32768 := Nat.pow_le_pow_right (by decide) hm
  have hp0 : 0 < 2 ^ m := Nat.pow_pos (by decide)
  have e : maxN .u16 = 65535 := rfl
  rw [andI_bit .u16 x m h0 (by omega) (by omega)]
  have h2 : x / ((2 ^ m : Nat) : Int) % 2 = 0 ∨ x / ((2 ^ m : Nat) : Int) % 2 = 1 := by omega
  rcases h2 with h | h
  · rw [h, Int.zero_mul]; rfl
  · rw [h]
    rw [Bool.eq_iff_iff, bne_iff_ne, decide_eq_true_iff]
    constructor
    · intro _; trivial
    · intro _; omega
theorem pack_any {p : Pk} (ok : okPk p) (hr : rightP p = true) (hi : 0 ≤ p.id) :
    parseE (packL p) = 0 ∧ parseP (packL p) = p ∧ headL (packL p) = 20 + p.opts.length ∧ (packL p).length = 20 + p.opts.length + p.data.length := by
  have hR := rgt_of hr
  have hr2 := hr
  unfold rightP at hr2
  simp only [Bool.and_eq_true, decide_eq_true_eq] at hr2
  obtain ⟨⟨⟨⟨⟨⟨⟨⟨⟨⟨⟨r1, r2⟩, r3⟩, r4⟩, r5⟩, r6⟩, r7⟩, r8⟩, r9⟩, r10⟩, r11⟩, r12⟩ := hr2
  obtain ⟨a1, a2, a3⟩ := is4_of ok.src r5
  obtain ⟨b1, b2, b3⟩ := is4_of ok.dst r6
  obtain ⟨s0, s1, s2, s3, hs⟩ := four_of a3
  obtain ⟨t0, t1, t2, t3, ht⟩ := four_of b3
  have hop : p.opts.length ≤ 40 ∧ p.opts.length % 4 = 0 := by
    unfold optsOk at r11
    simp only [Bool.and_eq_true, decide_eq_true_eq] at r11
    exact r11.1
  have hfv := flags_val hR.off.1 hR.off.2
  have hfb := flagsI_bd hR.off
  have hb0 : loB ((64 + (20 + (p.opts.length : Int)) / 4) % 256) = UInt8.ofNat (64 + (20 + p.opts.length) / 4) := by
    unfold loB
    congr 1
    omega
  obtain ⟨E, hE⟩ : ∃ E : List UInt8, E = [UInt8.ofNat (64 + (20 + p.opts.length) / 4), loB p.tos, hiB (20 + p.opts.length + p.data.length), loB (20 + p.opts.length + p.data.length), hiB p.id, loB p.id, hiB (flagsI p), loB (flagsI p), loB p.ttl, loB p.proto, 0, 0, s0, s1, s2, s3, t0, t1, t2, t3] := ⟨_, rfl⟩
  have hH : head0 p (20 + p.opts.length) = E ++ p.opts := by
    have z1 : hiB 0 = 0 := by decide
    have z2 : loB 0 = 0 := by decide
    unfold head0
    rw [hs, ht, hb0, z1, z2, hE]
    simp
  have hP : packL p = ([UInt8.ofNat (64 + (20 + p.opts.length) / 4), loB p.tos, hiB (20 + p.opts.length + p.data.length), loB (20 + p.opts.length + p.data.length), hiB p.id, loB p.id, hiB (flagsI p), loB (flagsI p), loB p.ttl, loB p.proto, hiB (ofL (E ++ p.opts)), loB (ofL (E ++ p.opts)), s0, s1, s2, s3, t0, t1, t2, t3] ++ p.opts) ++ p.data := by
    unfold packL
    rw [hH]
    generalize ofL (E ++ p.opts) = x
    rw [hE]
    rfl
  have hof := ofL_bd (E ++ p.opts)
  have hz : zeroed (E ++ p.opts) = E ++ p.opts := by rw [hE]; rfl
  have hw2 := word_of (v := 20 + (p.opts.length : Int) + (p.data.length : Int)) (by omega) (by omega)
  have hw4 := word_of hi hR.id
  have hw6 := word_of hfb.1 hfb.2
  have ht1 := u8_of hR.tos.1 hR.tos.2
  have hp1 := u8_of hR.proto.1 hR.proto.2
  have hl1 := u8_of hR.ttl.1 hR.ttl.2
  have hc1 := hiB_eq hof.1 hof.2
  have hc2 := loB_eq hof.1
  obtain ⟨B0, hB0⟩ : ∃ B0, UInt8.ofNat (64 + (20 + p.opts.length) / 4) = B0 := ⟨_, rfl⟩
  have hB : B0.toNat = 64 + (20 + p.opts.length) / 4 := by
    rw [← hB0, UInt8.toNat_ofNat']
    omega
  rw [hB0] at hE hP
  generalize hiB (20 + (p.opts.length : Int) + (p.data.length : Int)) = n1 at *
  generalize loB (20 + (p.opts.length : Int) + (p.data.length : Int)) = n2 at *
  generalize hiB p.id = i1 at *
  generalize loB p.id = i2 at *
  generalize hiB (flagsI p) = f1 at *
  generalize loB (flagsI p) = f2 at *
  generalize loB p.tos = T at *
  generalize loB p.proto = R at *
  generalize loB p.ttl = L at *
  generalize hx1 : hiB (ofL (E ++ p.opts)) = x1 at *
  generalize hx2 : loB (ofL (E ++ p.opts)) = x2 at *
  obtain ⟨Q, hQ⟩ : ∃ Q, packL p = Q := ⟨_, rfl⟩
  rw [hQ] at hP ⊢
  have hlen : Q.length = 20 + p.opts.length + p.data.length := by rw [hP]; simp; omega
  have hhead : headL Q = 20 + p.opts.length := by
    rw [hP]
    show B0.toNat % 16 * 4 = _
    omega
  have w6 : wordL Q 6 = flagsI p := by rw [hP]; exact hw6
  have h20 : Q.drop 20 = p.opts ++ p.data := by rw [hP]; simp
  have hread : readP Q (20 + p.opts.length) = p := by
    have q1 : ((Q.getD 1 0).toNat : Int) = p.tos := by rw [hP]; exact ht1
    have q2 : ((4, (Q.drop 12).take 4 ++ z12) : Ad) = p.src := by rw [hP]; exact Prod.ext a1.symm (by rw [a2, hs]; rfl)
    have q3 : ((4, (Q.drop 16).take 4 ++ z12) : Ad) = p.dst := by rw [hP]; exact Prod.ext b1.symm (by rw [b2, ht]; rfl)
    have q4 : ((Q.getD 9 0).toNat : Int) = p.proto := by rw [hP]; exact hp1
    have q5 : ((Q.getD 8 0).toNat : Int) = p.ttl := by rw [hP]; exact hl1
    have q6 : wordL Q 4 = p.id := by rw [hP]; exact hw4
    have q7 : (andI .u16 (flagF Q) 16384 != 0) = p.df := by
      unfold flagF
      rw [w6]
      rw [show (16384 : Int) = ((2 ^ 14 : Nat) : Int) from rfl, andBit hfb.1 hfb.2 14 (by decide), hfv]
      have := hR.off
      cases p.df <;> cases p.more <;> simp only [if_true, if_false, Bool.false_eq_true, decide_eq_true_eq, decide_eq_false_iff_not] <;> omega
    have q8 : (andI .u16 (flagF Q) 8192 != 0) = p.more := by
      unfold flagF
      rw [w6]
      rw [show (8192 : Int) = ((2 ^ 13 : Nat) : Int) from rfl, andBit hfb.1 hfb.2 13 (by decide), hfv]
      have := hR.off
      cases p.df <;> cases p.more <;> simp only [if_true, if_false, Bool.false_eq_true, decide_eq_true_eq, decide_eq_false_iff_not] <;> omega
    have q9 : flagF Q % 8192 * 8 = p.off := by
      have hoff8 : p.off % 8 = 0 := by
        unfold placedP at r10
        simp only [Bool.and_eq_true, decide_eq_true_eq] at r10
        exact r10.1.1.1.2
      unfold flagF
      rw [w6, hfv]
      have := hR.off
      cases p.df <;> cases p.more <;> simp only [if_true, if_false, Bool.false_eq_true] <;> omega
    have q10 : (Q.drop 20).take (20 + p.opts.length - 20) = p.opts := by
      rw [h20, Nat.add_sub_cancel_left]
      exact List.take_left' rfl
    have q11 : Q.drop (20 + p.opts.length) = p.data := by
      rw [← List.drop_drop, h20]
      exact List.drop_left' rfl
    unfold readP
    rw [q1, q2, q3, q4, q5, q6, q7, q8, q9, q10, q11]
    obtain ⟨v, tos, flow, src, dst, proto, ttl, id, df, more, frag, off, opts, data⟩ := p
    dsimp only at r1 r2 r3 ⊢
    have r3 : frag = false := by simpa using r3
    rw [r1, r2, r3]
  have hF : Facts Q := by
    refine ⟨by omega, by omega, by omega, ?_, ?_, ?_, ?_, by rw [hhead, hread]; exact r10, by rw [hhead, hread]; exact r11⟩
    · rw [hP]
      show B0.toNat / 16 = 4
      omega
    · rw [hlen, hP]
      show ((n1.toNat : Int) * 256 + (n2.toNat : Int)) = _
      omega
    · have htk : Q.take (headL Q) = [B0, T, n1, n2, i1, i2, f1, f2, L, R, x1, x2, s0, s1, s2, s3, t0, t1, t2, t3] ++ p.opts := by
        rw [hhead, hP]
        exact List.take_left' (by simp; omega)
      rw [htk]
      have hzz : zeroed ([B0, T, n1, n2, i1, i2, f1, f2, L, R, x1, x2, s0, s1, s2, s3, t0, t1, t2, t3] ++ p.opts) = E ++ p.opts := by rw [hE]; rfl
      unfold checkedL
      rw [hzz, Bool.and_eq_true]
      exact ⟨decide_eq_true hc1, decide_eq_true hc2⟩
    · unfold flagF
      rw [w6, show (32768 : Int) = ((2 ^ 15 : Nat) : Int) from rfl]
      have h := andBit hfb.1 hfb.2 15 (by decide)
      have hd : decide (flagsI p / ((2 ^ 15 : Nat) : Int) % 2 = 1) = false := by
        rw [hfv]
        have := hR.off
        cases p.df <;> cases p.more <;> simp only [if_true, if_false, Bool.false_eq_true, decide_eq_false_iff_not] <;> omega
      rw [hd] at h
      intro hne
      have h2 := bne_iff_ne.2 hne
      rw [h] at h2
      cases h2
  have hE0 := parse_of hF
  exact ⟨hE0, by rw [parseP_of hE0, hhead, hread], hhead, hlen⟩
end Go.Proofs.YtofomopdaponbaaGreatDoor
/-
  The law's helpers about errors: a message's packet (carried), whether it tells of a packet (tells).
-/
namespace Go.Proofs.YtofomopdaponbaaGreatDoor
open Go.RowKit
set_option linter.unusedVariables false
set_option linter.unusedSimpArgs false

def icPk (a b : Ad) (d : List UInt8) : Pk := ⟨4, 0, 0, a, b, 1, 60, 0, false, false, false, 0, [], d⟩
theorem icPk_right {a b : Ad} {l : List UInt8} (ha : fourA a = true) (hb : fourA b = true) (hl : l.length ≤ 65515) : rightP (icPk a b l) = true := by
  have hpl : placedP (icPk a b l) = true := by
    unfold placedP withinI
    simp [icPk]
    try omega
  have ho : optsOk (icPk a b l).opts = true := by kernel_rfl
  unfold rightP
  rw [hpl, ho]
  simp only [icPk, ha, hb, withinI]
  simp
  exact decide_eq_true (by omega)
def carriedL (a b : Ad) (m : Mg) : List UInt8 := packL (icPk a b (icL a b m))
set_option maxHeartbeats 1000000 in
set_option maxRecDepth 100000 in
theorem carried_does {w : World} {a b : Ad} {m : Mg} {G : List Nat} {D : At} (ha : okAd a) (hb : okAd b) (hm : okMg a b m) (h4 : m.v = 4) (hG : Bs w G D.1 m.body.length m.body) (hs : Shp w) :
    Does Tryz.prog 39 [.agg ⟨adC a⟩, .agg ⟨adC b⟩, .agg ⟨mgC m D⟩] w (fun r w' => Own w w' 5 1 ((carriedL a b m).map u8) r) := by
  have hA := ((Only.alloc (Only.refl [] w) (.cells ⟨adC a⟩ 24)).alloc (.cells ⟨adC b⟩ 24)).alloc (.cells ⟨mgC m D⟩ 93)
  have b3 := ((Blk.new w 24 ⟨adC a⟩).alloc (.cells ⟨adC b⟩ 24)).alloc (.cells ⟨mgC m D⟩ 93)
  have b4 := (Blk.new (w.alloc (.cells ⟨adC a⟩ 24)) 24 ⟨adC b⟩).alloc (.cells ⟨mgC m D⟩ 93)
  have b5 := Blk.new ((w.alloc (.cells ⟨adC a⟩ 24)).alloc (.cells ⟨adC b⟩ 24)) 93 ⟨mgC m D⟩
  have f1 : fourA a = true := by have := hm.a; unfold ofA at this; rw [h4] at this; exact this
  have f2 : fourA b = true := by have := hm.b; unfold ofA at this; rw [h4] at this; exact this
  refine Does.enter (fn := Tryz.f39) (by kernel_rfl) rfl (by kernel_rfl) (by kernel_rfl) ?_
  conv => whnf
  refine ⟨_, Loads.all b3 (by kernel_rfl) (by rw [adC_len ha]; kernel_rfl), ?_⟩
  conv => whnf
  refine ⟨_, Loads.all b4 (by kernel_rfl) (by rw [adC_len hb]; kernel_rfl), ?_⟩
  conv => whnf
  refine ⟨_, Loads.all b5 (by kernel_rfl) (by kernel_rfl), ?_⟩
  conv => whnf
  refine (icBuild_does ha hb hm (hG.o hA)).mono ?_
  rintro r w1 ⟨A, c, FX, rfl, hrow, ho1, hFX⟩
  have hw1 := hA.t0 ho1
  have hle := hrow.le
  have hll := icL_len a b m
  have hml := hm.len
  conv => whnf
  refine ⟨_, Loads.all (b3.only ho1 (by simp)) (by kernel_rfl) (by rw [adC_len ha]; kernel_rfl), ?_⟩
  conv => whnf
  refine ⟨_, Loads.all (b4.only ho1 (by simp)) (by kernel_rfl) (by rw [adC_len hb]; kernel_rfl), ?_⟩
  conv => whnf
  refine lenIs.of (by rw [List.length_map]; exact ha.2.2) ?_
  conv => whnf
  refine lenIs.of (by rw [List.length_map]; exact hb.2.2) ?_
  conv => whnf
  have hpk : Pks w1 (icPk a b (icL a b m)) (none, 0) (A, c) 0 := ⟨⟨ha, hb, ⟨show (-9223372036854775808 : Int) ≤ 0 by decide, show (0 : Int) ≤ 9223372036854775807 by decide⟩⟩, ⟨[], Sl.nil _ _ _ _, by simp⟩, ⟨FX, Row.bs hrow, fun k _ => Nat.zero_le _⟩, ⟨Nat.le_refl 0, Nat.zero_le _⟩, ⟨hle.1, by have := hle.2; unfold maxLen at this; exact this⟩, Nat.zero_le _, by show (icL a b m).length ≤ _; omega⟩
  refine (ipBuild_does hpk (hs.o hw1) (icPk_right f1 f2 (by omega)) (Int.le_refl 0)).mono ?_
  rintro v wz ⟨Z, cZ, FZ, rfl, hrZ, hoZ, hFZ⟩
  conv => whnf
  exact ⟨Z, _, cZ, FZ, rfl, hrZ, hw1.t0 hoZ, fun k hk => Nat.le_trans hw1.size (hFZ k hk)⟩
/-- What makes a packet's bytes tell of a packet. -/
structure TellsOk (l : List UInt8) (a b : Ad) (P : List UInt8) (m : Mg) : Prop where
  e0 : parseE l = 0
  src : (parseP l).src = a
  dst : (parseP l).dst = b
  proto : (parseP l).proto = 1
  ttl : (parseP l).ttl = 60
  ic0 : icE a b (parseP l).data = 0
  typ : (icP a b (parseP l).data).typ = m.typ
  code : (icP a b (parseP l).data).code = m.code
  rest : (icP a b (parseP l).data).rest = m.rest
  v : (icP a b (parseP l).data).v = 4
  blen : (icP a b (parseP l).data).body.length = m.body.length
  long : m.body.length ≤ P.length
  most : P.length ≤ 65535
  look : lookE (icP a b (parseP l).data).body = 0
  size : wordL (icP a b (parseP l).data).body 2 = P.length
  body : (icP a b (parseP l).data).body = P.take m.body.length
  ge : 20 ≤ m.body.length
set_option maxHeartbeats 2000000 in
set_option maxRecDepth 100000 in
theorem tells_does {w : World} {l P : List UInt8} {src dst : Ad} {m : Mg} {G H : List Nat} {A B : Option Addr} {c d : Nat} {D : At} (hT : TellsOk l src dst P m) (hl : Bs w G A l.length l) (hn : l.length ≤ 140737488355328) (hP : Bs w H B P.length P) (hd : P.length ≤ d) (hdm : d ≤ 9223372036854775807) (ha : okAd src) (hb : okAd dst) (hs : Shp w) :
    Does Tryz.prog 40 [.slice A l.length c, .agg ⟨adC src⟩, .agg ⟨adC dst⟩, .slice B P.length d, .agg ⟨mgC m D⟩] w (fun r w' => r = .bool true ∧ Only [] w w') := by
  have hA := ((Only.alloc (Only.refl [] w) (.cells ⟨adC src⟩ 24)).alloc (.cells ⟨adC dst⟩ 24)).alloc (.cells ⟨mgC m D⟩ 93)
  have b6 := ((Blk.new w 24 ⟨adC src⟩).alloc (.cells ⟨adC dst⟩ 24)).alloc (.cells ⟨mgC m D⟩ 93)
  have b7 := (Blk.new (w.alloc (.cells ⟨adC src⟩ 24)) 24 ⟨adC dst⟩).alloc (.cells ⟨mgC m D⟩ 93)
  have b9 := Blk.new ((w.alloc (.cells ⟨adC src⟩ 24)).alloc (.cells ⟨adC dst⟩ 24)) 93 ⟨mgC m D⟩
  refine Does.enter (fn := Tryz.f40) (by kernel_rfl) rfl (by kernel_rfl) (by kernel_rfl) ?_
  conv => whnf
  refine (own_does (hl.o hA) hn).mono ?_
  rintro r w1 ⟨X, nX, cX, FX, rfl, hrX, ho1, hFX⟩
  obtain rfl := (Row.bs hrX).len
  have hw1 := hA.t0 ho1
  conv => whnf
  refine (parse_does (Row.bs hrX) (hs.o hw1) hn hrX.le.1 (by have := hrX.le.2; unfold maxLen at this; exact this)).mono ?_
  rintro r w2 ⟨O2, D2, rfl, hp2, ho2⟩
  have hw2 := hw1.t0 ho2
  have hok := hp2.ok
  have hlp := pk_len (O := O2) (D := D2) hok
  rw [hT.e0]
  conv => whnf
  refine vStore.fresh (cs := pkC (parseP l) O2 D2) (by rw [hlp]; kernel_rfl) (by rw [hlp]; kernel_rfl) (one_pkC _ _ _) (fun w3 b11 ho3 hz3 => ?_)
  have h13 := (ho1.t0 ho2).t0 ho3
  have b63 := b6.only h13 (by simp)
  have b73 := b7.only h13 (by simp)
  have b93 := b9.only h13 (by simp)
  have hw3 := hA.t0 h13
  have hp3 := hp2.o ho3
  refine splitB.abs fun N1 hN1 => ?_
  conv => whnf
  refine hN1 _ _ ?_
  clear hN1 N1
  refine vc.abs2 rfl fun N2 hN2 => ?_
  conv => whnf
  refine ⟨_, b11.pkSrc hok, ?_⟩
  conv => whnf
  refine ⟨_, Loads.all b63 (by kernel_rfl) (by rw [adC_len ha]; kernel_rfl), ?_⟩
  conv => whnf
  refine ⟨_, eql_ad hok.src ha _ _, ?_⟩
  conv => whnf
  refine VIf.not (VIf.of (b := decide ((parseP l).src = src)) (fun _ => ?_) (fun h3 => (of_decide_eq_false h3 hT.src).elim))
  conv => whnf
  refine ⟨_, b11.pkDst hok, ?_⟩
  conv => whnf
  refine ⟨_, Loads.all b73 (by kernel_rfl) (by rw [adC_len hb]; kernel_rfl), ?_⟩
  conv => whnf
  refine ⟨_, eql_ad hok.dst hb _ _, ?_⟩
  conv => whnf
  refine VIf.not (VIf.of (b := decide ((parseP l).dst = dst)) (fun _ => ?_) (fun h3 => (of_decide_eq_false h3 hT.dst).elim))
  conv => whnf
  refine ⟨_, Loads.one (by kernel_rfl) (b11.pkProto hok), ?_⟩
  conv => whnf
  refine VIf.ne (fun h => (h hT.proto).elim) (fun _ => ?_)
  conv => whnf
  refine ⟨_, Loads.one (by kernel_rfl) (b11.pkTtl hok), ?_⟩
  conv => whnf
  refine hN2 _ _ ?_
  refine vc.NS (congrArg Value.bool (show ((parseP l).ttl != 60) = false by rw [hT.ttl]; rfl)) ?_
  clear hN2 N2
  conv => whnf
  refine ⟨_, b11.pkSrc hok, ?_⟩
  conv => whnf
  refine ⟨_, b11.pkDst hok, ?_⟩
  conv => whnf
  refine ⟨_, Loads.one (by kernel_rfl) (b11.pkData hok), ?_⟩
  conv => whnf
  obtain ⟨GD, hGD, -⟩ := hp3.data
  refine (icParse_does hok.src hok.dst hGD hp3.dc.1 hp3.dl).mono ?_
  rw [hT.src, hT.dst]
  rintro r w4 ⟨DM, GM, rfl, hB, hGM, hc1, hc2, ho4⟩
  have hv := hT.v
  have htyp := hT.typ
  have hcode := hT.code
  have hrest := hT.rest
  have hblen := hT.blen
  have hlook := hT.look
  have hsize := hT.size
  have hbody := hT.body
  have hlong := hT.long
  have hge := hT.ge
  have hmost := hT.most
  rw [hT.ic0]
  generalize icP src dst (parseP l).data = M at *
  have hw4 := hw3.t0 ho4
  have b94 := b93.only ho4 (by simp)
  conv => whnf
  refine vStore.fresh (cs := mgC M DM) (by kernel_rfl) (by kernel_rfl) (one_mgC _ _) (fun w5 b13 ho5 hz5 => ?_)
  have hw5 := hw4.t0 ho5
  have b95 := b94.only ho5 (by simp)
  have hB5 := hB.o ho5
  clear b6 b7 b9 b63 b73 b93
  refine splitB.abs fun N1 hN1 => ?_
  conv => whnf
  refine hN1 _ _ ?_
  clear hN1 N1
  refine vc.abs2 rfl fun N2 hN2 => ?_
  conv => whnf
  refine ⟨_, Loads.one (by kernel_rfl) (b13.at (i := 1) rfl), ?_⟩
  conv => whnf
  refine ⟨_, Loads.one (by kernel_rfl) (b95.at (i := 1) rfl), ?_⟩
  conv => whnf
  refine VIf.ne (fun h => (h htyp).elim) (fun _ => ?_)
  conv => whnf
  refine ⟨_, Loads.one (by kernel_rfl) (b13.at (i := 2) rfl), ?_⟩
  conv => whnf
  refine ⟨_, Loads.one (by kernel_rfl) (b95.at (i := 2) rfl), ?_⟩
  conv => whnf
  refine VIf.ne (fun h => (h hcode).elim) (fun _ => ?_)
  conv => whnf
  refine ⟨_, Loads.one (by kernel_rfl) (b13.at (i := 3) rfl), ?_⟩
  conv => whnf
  refine ⟨_, Loads.one (by kernel_rfl) (b95.at (i := 3) rfl), ?_⟩
  conv => whnf
  refine VIf.ne (fun h => (h hrest).elim) (fun _ => ?_)
  conv => whnf
  refine ⟨_, Loads.one (by kernel_rfl) (b13.at (i := 4) rfl), ?_⟩
  conv => whnf
  refine ⟨_, Loads.one (by kernel_rfl) (b95.at (i := 4) rfl), ?_⟩
  conv => whnf
  refine VIf.ne (fun h => (h (congrArg Int.ofNat hblen)).elim) (fun _ => ?_)
  conv => whnf
  refine ⟨_, Loads.one (by kernel_rfl) (b13.at (i := 4) rfl), ?_⟩
  conv => whnf
  refine hN2 _ _ ?_
  refine vc.NS (congrArg Value.bool (decide_eq_false (show ¬ (M.body.length : Int) > (P.length : Int) by omega))) ?_
  clear hN2 N2
  conv => whnf
  refine ⟨_, Loads.all b13 (by kernel_rfl) (by kernel_rfl), ?_⟩
  conv => whnf
  refine (look_does hv hB5 (hs.o hw5) (by omega) hc1 hc2).mono ?_
  rintro r w6 ⟨p, n, O3, D3, rfl, hk1, -, hp6, ho6⟩
  obtain ⟨rfl, rfl⟩ := hk1 hlook
  rw [hlook]
  have hok6 := hp6.ok
  have hlp6 := pk_len (O := O3) (D := D3) hok6
  have b136 := b13.only ho6 (by simp)
  conv => whnf
  refine vStore.fresh (cs := pkC (lookP M.body) O3 D3) (by rw [hlp6]; kernel_rfl) (by rw [hlp6]; kernel_rfl) (one_pkC _ _ _) (fun w7 b15 ho7 hz7 => ?_)
  have b137 := b136.only ho7 (by simp)
  have hw7 := (hw5.t0 ho6).t0 ho7
  have hB7 := (hB5.o ho6).o ho7
  conv => whnf
  refine VDraw.abs fun N3 hN3 => ?_
  refine VDraw.held (fun w' => Only [] w7 w') [0, 1, 2, 3, 4, 5, 6, 7, 8, 9, 10, 11, 12, 13, 14, 15, 16, 17, 18, 19, 20, 21, 22, 23, 24, 25, 26] (by kernel_rfl) (by kernel_rfl) (Only.refl [] w7).drew ?_
  conv => whnf
  refine VIf.eq (fun _ => ?_) (fun h => (h hsize).elim)
  conv => whnf
  refine ⟨_, fun w' hw' => Loads.one (by kernel_rfl) ((b137.only hw' (by simp)).at (i := 4) rfl), ?_⟩
  conv => whnf
  refine ⟨_, fun w' hw' => Loads.one (by kernel_rfl) ((b137.only hw' (by simp)).at (i := 4) rfl), ?_⟩
  conv => whnf
  have hcutP : Bs w H (if d = 0 then B else B.map (·.add (0 * 1))) M.body.length (P.take m.body.length) := by
    have h1 := Bs.cut (lo := 0) (hi := M.body.length) (m := d) hP (Nat.zero_le _) (by omega) (by omega) (A' := if d = 0 then B else B.map (·.add (0 * 1))) rfl
    have e : (P.drop 0).take (M.body.length - 0) = P.take m.body.length := by rw [List.drop_zero, Nat.sub_zero, hblen]
    rw [e] at h1
    exact h1
  refine ⟨0, M.body.length, d, rfl, rfl, rfl, Nat.zero_le _, by omega, Nat.le_refl _, _, M.body.length, d, rfl, rfl, rfl, ?_⟩
  conv => whnf
  refine (same_does (hB7.o ((Only.refl [] w7).drew)) (hcutP.o (hw7.drew))).mono ?_
  rw [hbody]
  have hss : sameL (P.take m.body.length) (P.take m.body.length) = true := by simp [sameL]
  rw [hss]
  rintro r w8 ⟨rfl, rfl⟩
  refine ⟨(Only.refl [] w7).drew, ?_⟩
  conv => whnf
  have hsrc4 : (lookP (P.take m.body.length)).src.2.take 4 = (P.drop 12).take 4 := by
    show (((P.take m.body.length).drop 12).take 4 ++ z12).take 4 = _
    have e : ((P.take m.body.length).drop 12).take 4 = (P.drop 12).take 4 := by
      rw [List.drop_take, List.take_take, Nat.min_eq_left (by omega)]
    rw [e]
    exact List.take_left' (by rw [List.length_take, List.length_drop]; omega)
  have hcutQ : Bs w H (if d = 12 then B else B.map (·.add (12 * 1))) 4 ((P.drop 12).take 4) := by
    have h1 := Bs.cut (lo := 12) (hi := 16) (m := d) hP (by decide) (by omega) (by omega) (A' := if d = 12 then B else B.map (·.add (12 * 1))) rfl
    exact h1
  rw [hbody] at b15 hok6
  refine ⟨0, 4, 16, rfl, rfl, rfl, by decide, by decide, by decide, ⟨_, 4, none⟩, 4, 16, rfl, rfl, rfl, ?_⟩
  conv => whnf
  refine ⟨12, 16, d, rfl, rfl, rfl, by decide, by omega, Nat.le_refl _, _, 4, d - 12, rfl, rfl, rfl, ?_⟩
  conv => whnf
  refine (same_does ((b15.pkSrcB hok6).o ((Only.refl [] w7).drew)) (hcutQ.o (hw7.drew))).mono ?_
  rw [hsrc4]
  have hss2 : sameL ((P.drop 12).take 4) ((P.drop 12).take 4) = true := by simp [sameL]
  rw [hss2]
  rintro r w8 ⟨rfl, rfl⟩
  refine ⟨(Only.refl [] w7).drew, ?_⟩
  conv => whnf
  refine hN3 _ _ ?_
  conv => whnf
  exact ⟨rfl, hw7.drew⟩
end Go.Proofs.YtofomopdaponbaaGreatDoor
