/-
  The document's nat (mosaicref30): the walk of quote.
-/
import Derived.Test.YtofomopdaponbaaGreatDoorZz
namespace Go.Proofs.YtofomopdaponbaaGreatDoor
open Go.RowKit
set_option linter.unusedVariables false
set_option linter.unusedSimpArgs false

def quoteV (p : Pk) (head : Nat) : Value := if quotedB p = true then .tuple ⟨[.int .i64 ((head + 8 : Nat) : Int), .int .i64 ((head + 8 + qN p : Nat) : Int), .bool true]⟩ else .tuple ⟨[.int .i64 0, .int .i64 0, .bool false]⟩
theorem quoteV_no {p : Pk} {head : Nat} (h : quotedB p = false) : Value.tuple ⟨[.int .i64 0, .int .i64 0, .bool false]⟩ = quoteV p head := by
  unfold quoteV
  rw [h]
  rfl
set_option maxHeartbeats 4000000 in
set_option maxRecDepth 100000 in
theorem rquote_does {w : World} {p : Pk} {O D : At} {B n c head : Nat} {A : Option Addr} (hp : Pks w p O D B) (hl : p.data.length ≤ 65535) (hh : head ≤ 65535) :
    Does Tryz.prog 119 [.slice A n c, .agg ⟨pkC p O D⟩, .int .i64 head] w (fun v w' => v = quoteV p head ∧ Only [] w w') := by
  have ok := hp.ok
  have hA := Only.alloc (Only.refl [] w) (.cells ⟨pkC p O D⟩ 56)
  have b4 := Blk.new w 56 ⟨pkC p O D⟩
  obtain ⟨GD, hD, -⟩ := hp.data
  have hD := hD.o hA
  have hdc := hp.dc
  refine Does.enter (fn := Tryz.f119) (by kernel_rfl) rfl (by kernel_rfl) (by kernel_rfl) ?_
  refine vc.abs fun N0 hN0 => ?_
  conv => whnf
  refine hN0 _ _ ?_
  refine vc.abs fun N1 hN1 => ?_
  conv => whnf
  (refine ⟨_, Loads.one (by kernel_rfl) (b4.pkData ok), ?_⟩; conv => whnf)
  refine hN1 _ _ ?_
  refine vc.abs2 rfl fun N2 hN2 => ?_
  conv => whnf
  (refine ⟨_, Loads.one (by kernel_rfl) (b4.pkProto ok), ?_⟩; conv => whnf)
  refine VIf.ne (fun f1 => ?_) (fun f1 => ?_)
  · conv => whnf
    refine hN2 _ _ ?_
    conv => whnf
    exact ⟨quoteV_no (by simp [quotedB, quoted1, f1]), hA⟩
  conv => whnf
  (refine ⟨_, Loads.one (by kernel_rfl) (b4.pkOff ok), ?_⟩; conv => whnf)
  refine VIf.dec (fun f2 => ?_) (fun f2 => ?_)
  · conv => whnf
    refine hN2 _ _ ?_
    conv => whnf
    exact ⟨quoteV_no (by simp [quotedB, quoted1, f2]), hA⟩
  conv => whnf
  (refine ⟨_, Loads.one (by kernel_rfl) (b4.pkMore ok), ?_⟩; conv => whnf)
  refine VIf.of (b := p.more) (fun f3 => ?_) (fun f3 => ?_)
  · conv => whnf
    refine hN2 _ _ ?_
    conv => whnf
    exact ⟨quoteV_no (by simp [quotedB, quoted1, f3]), hA⟩
  conv => whnf
  refine hN2 _ _ ?_
  conv => whnf
  refine VIf.dec (fun f4 => ?_) (fun f4 => ?_)
  · have f4 : ¬ 28 ≤ p.data.length := by omega
    conv => whnf
    exact ⟨quoteV_no (by simp [quotedB, quoted1, f4]), hA⟩
  have f4 : 28 ≤ p.data.length := by omega
  have hq1 : quoted1 p = true := by simp [quoted1, f1, f2, f3, f4]
  have hqb : quotedB p = (errKind (p.data.getD 0 0).toNat && quoted2 p) := by
    unfold quotedB
    rw [hq1, Bool.true_and]
  obtain ⟨b, off, hDe, -⟩ := hD.some_ (by omega)
  obtain ⟨D1, D2⟩ := D
  dsimp only at hDe hD hdc
  subst hDe
  refine vc.S ?_
  refine vc.abs fun N3 hN3 => ?_
  conv => whnf
  refine ⟨_, _, rfl, 0, off + 0, rfl, by omega, p1 _ _, ?_⟩
  conv => whnf
  (refine ⟨_, Loads.one (by kernel_rfl) (hD.ld (getD_some (by omega))), ?_⟩; conv => whnf)
  refine hN3 _ _ ?_
  have ht8 := u8_le (p.data.getD 0 0)
  have et : IntKind.i64.wrap ((p.data.getD 0 0).toNat : Int) = ((p.data.getD 0 0).toNat : Int) := wi8 _
  rw [et]
  refine vc.abs2 rfl fun N4 hN4 => ?_
  generalize hT : (p.data.getD 0 0).toNat = t at hqb ht8
  by_cases hk : errKind t = true
  rotate_left
  · have hk : errKind t = false := by simpa using hk
    have hno : quotedB p = false := by rw [hqb, hk]; rfl
    unfold errKind at hk
    simp only [Bool.or_eq_false_iff, decide_eq_false_iff_not] at hk
    obtain ⟨⟨⟨⟨k3, k4⟩, k5⟩, k11⟩, k12⟩ := hk
    conv => whnf
    refine VIf.ne (fun _ => ?_) (fun e => absurd e (by omega))
    conv => whnf
    refine VIf.ne (fun _ => ?_) (fun e => absurd e (by omega))
    conv => whnf
    refine VIf.ne (fun _ => ?_) (fun e => absurd e (by omega))
    conv => whnf
    refine VIf.ne (fun _ => ?_) (fun e => absurd e (by omega))
    conv => whnf
    refine hN4 _ _ ?_
    conv => whnf
    refine VIf.ne (fun _ => ?_) (fun e => absurd e (by omega))
    conv => whnf
    exact ⟨quoteV_no hno, hA⟩
  have ht5 : t = 3 ∨ t = 4 ∨ t = 5 ∨ t = 11 ∨ t = 12 := by
    unfold errKind at hk
    simp only [Bool.or_eq_true, decide_eq_true_eq] at hk
    omega
  have hq2 : quotedB p = quoted2 p := by rw [hqb, hk]; rfl
  clear hqb hk
  have hcut := hD.cut (lo := 8) (hi := p.data.length) (m := D2) (by omega) (by omega) (by omega) rfl
  have eQ : (p.data.drop 8).take (p.data.length - 8) = qL p := by
    rw [List.take_of_length_le (by rw [List.length_drop]; omega)]
    rfl
  rw [eQ] at hcut
  have hql := hcut.len
  have hq8 := u8_le ((qL p).getD 0 0)
  have hn := qN_le p
  have eqN : qN p = ((qL p).getD 0 0).toNat % 16 * 4 := by unfold qN; omega
  have e4 : IntKind.i64.wrap ((IntKind.i64.wrap (((qL p).getD 0 0).toNat : Int)).tmod 16 * 4) = ((qN p : Nat) : Int) := by
    rw [wi8, Int.tmod_eq_emod_of_nonneg (by omega), wi64, eqN]
    omega
  have e9 := wordL_bd (qL p) 6
  have eh : IntKind.i64.wrap (IntKind.i64.wrap ((head : Int) + 8) + ((qN p : Nat) : Int)) = ((head + 8 + qN p : Nat) : Int) := by
    rw [show IntKind.i64.wrap ((head : Int) + 8) = ((head + 8 : Nat) : Int) by rw [wi64]; omega, wi64]
    omega
  have eh8 : IntKind.i64.wrap ((head : Int) + 8) = ((head + 8 : Nat) : Int) := by rw [wi64]; omega
  have en4 : IntKind.i64.wrap (((qN p : Nat) : Int) + 4) = ((qN p + 4 : Nat) : Int) := by rw [wi64]; omega
  have em : (wordL (qL p) 6).tmod 8192 = wordL (qL p) 6 % 8192 := Int.tmod_eq_emod_of_nonneg e9.1
  have hcut0 : p.data.length - 8 = (qL p).length := hql.symm
  obtain ⟨qb, qo, hqe, -⟩ := hcut.some_ (by omega)
  have hcut := hqe ▸ hcut
  rcases ht5 with e | e | e | e | e
  all_goals
    subst e
    conv => whnf
    refine hN4 _ _ ?_
    refine vc.N rfl ?_
    refine vc.S ?_
    refine vc.abs fun N5 hN5 => ?_
    conv => whnf
    refine ⟨8, p.data.length, D2, rfl, rfl, rfl, by omega, by omega, by omega, some ⟨qb, qo, none⟩, p.data.length - 8, D2 - 8, hqe.symm, rfl, rfl, ?_⟩
    conv => whnf
    refine hN5 _ _ ?_
    refine vc.abs fun N6 hN6 => ?_
    conv => whnf
    refine ⟨_, _, rfl, 0, qo + 0, rfl, by omega, p1 _ _, ?_⟩
    conv => whnf
    (refine ⟨_, Loads.one (by kernel_rfl) (hcut.ld (getD_some (by omega))), ?_⟩; conv => whnf)
    rw [e4]
    refine hN6 _ _ ?_
    refine vc.abs2 rfl fun N7 hN7 => ?_
    conv => whnf
    refine ⟨_, _, rfl, 0, qo + 0, rfl, by omega, p1 _ _, ?_⟩
    conv => whnf
    (refine ⟨_, Loads.one (by kernel_rfl) (hcut.ld (getD_some (by omega))), ?_⟩; conv => whnf)
    rw [qd_e]
    refine VIf.ne (fun g1 => ?_) (fun g1 => ?_)
    · conv => whnf
      refine hN7 _ _ ?_
      conv => whnf
      exact ⟨quoteV_no (by rw [hq2]; unfold quoted2; rw [decide_eq_false (show ¬ ((qL p).getD 0 0).toNat / 16 = 4 by omega)]; simp), hA⟩
    conv => whnf
    refine VIf.dec (fun g2 => ?_) (fun g2 => ?_)
    · conv => whnf
      refine hN7 _ _ ?_
      conv => whnf
      exact ⟨quoteV_no (by rw [hq2]; simp [quoted2, show ¬ 20 ≤ qN p by omega]), hA⟩
    conv => whnf
    rw [en4]
    refine VIf.dec (fun g3 => ?_) (fun g3 => ?_)
    · conv => whnf
      refine hN7 _ _ ?_
      conv => whnf
      exact ⟨quoteV_no (by rw [hq2]; simp [quoted2, show ¬ qN p + 4 ≤ (qL p).length by omega]), hA⟩
    conv => whnf
    refine ⟨_, _, rfl, 9, qo + 9, rfl, by omega, p1 _ _, ?_⟩
    conv => whnf
    (refine ⟨_, Loads.one (by kernel_rfl) (hcut.ld (getD_some (by omega))), ?_⟩; conv => whnf)
    refine VIf.ne (fun g4 => ?_) (fun g4 => ?_)
    · conv => whnf
      refine hN7 _ _ ?_
      conv => whnf
      exact ⟨quoteV_no (by rw [hq2]; unfold quoted2; rw [decide_eq_false (show ¬ ((qL p).getD 9 0).toNat = 17 by omega)]; simp), hA⟩
    conv => whnf
    refine (rget30_does (k := 6) hcut (by omega) (by omega)).mono ?_
    rintro v w2 ⟨rfl, ho2⟩
    have hw2 := hA.t0 ho2
    conv => whnf
    refine hN7 _ _ ?_
    conv => whnf
    rw [em]
    refine VIf.ne (fun g5 => ?_) (fun g5 => ?_)
    · conv => whnf
      exact ⟨quoteV_no (by rw [hq2]; unfold quoted2; rw [decide_eq_false g5]; simp), hw2⟩
    have hyes : quotedB p = true := by
      rw [hq2]
      unfold quoted2
      rw [decide_eq_true (show ((qL p).getD 0 0).toNat / 16 = 4 by omega), decide_eq_true (show 20 ≤ qN p by omega), decide_eq_true (show qN p + 4 ≤ (qL p).length by omega), decide_eq_true (show ((qL p).getD 9 0).toNat = 17 by omega), decide_eq_true g5]
      rfl
    conv => whnf
    refine ⟨?_, hw2⟩
    unfold quoteV
    rw [hyes, if_pos rfl, eh, eh8]
end Go.Proofs.YtofomopdaponbaaGreatDoor
/-
  The document's nat (mosaicref30): turnQuote is the program's quote (plain).
-/
namespace Go.Proofs.YtofomopdaponbaaGreatDoor
open Go.RowKit
set_option linter.unusedVariables false
set_option linter.unusedSimpArgs false

theorem over_0 {l : List UInt8} {i k : Nat} {v : Int} (hf : i + 1 < k ∨ k + 1 < i) : overL l k v [(i : Int)] = setW (setW l k v) i (patchI (wordL l i) (wordL l k) v) := by
  refine over2.trans ?_
  rw [if_pos (by omega), Int.toNat_natCast, setW_comm hf]
theorem over_i {Z : List UInt8} {i k : Nat} {x v : Int} (hi : i + 1 < Z.length) (hx : 0 ≤ x ∧ x ≤ 65535) (hf : i + 1 < k ∨ k + 1 < i) : overL (setW Z i x) k v [(i : Int)] = setW (setW Z k v) i (patchI x (wordL Z k) v) := by
  rw [over_0 hf, wordL_setW hi hx.1 hx.2, wordL_setW_ne (by omega), setW_comm (i := i) (j := k) (by omega), setW_setW]
/-- The quote's own checksum behind its address. -/
def tqS (l : List UInt8) (q k : Nat) (a : Ad) : Int := patchI (patchI (wordL l (q + 10)) (wordL l (q + k)) (wordL a.2 0)) (wordL l (q + k + 2)) (wordL a.2 2)
def tqY (l : List UInt8) (q u k : Nat) (a : Ad) (p : Int) (S : Nat) : Int := patchI (patchI (patchI (wordL l S) (wordL l (q + k)) (wordL a.2 0)) (wordL l (q + k + 2)) (wordL a.2 2)) (wordL l (u + (k - 12) / 2)) p
def tqX (l : List UInt8) (q u k : Nat) (a : Ad) (p : Int) (S : Nat) : Int := if tqY l q u k a p S = 0 then 65535 else tqY l q u k a p S
def tq4L (l : List UInt8) (head q u k : Nat) (a : Ad) (p : Int) : List UInt8 := overL (overL (overL (overL l (q + 10) (tqS l q k a) [((head + 2 : Nat) : Int)]) (q + k) (wordL a.2 0) [((head + 2 : Nat) : Int)]) (q + k + 2) (wordL a.2 2) [((head + 2 : Nat) : Int)]) (u + (k - 12) / 2) p [((head + 2 : Nat) : Int)]
def tqL (l : List UInt8) (head q u k : Nat) (a : Ad) (p : Int) : List UInt8 := if sumAt l u ≥ 0 then overL (tq4L l head q u k a p) (sumAt l u).toNat (tqX l q u k a p (sumAt l u).toNat) [((head + 2 : Nat) : Int)] else tq4L l head q u k a p
theorem tqS_bd (l : List UInt8) (q k : Nat) (a : Ad) : 0 ≤ tqS l q k a ∧ tqS l q k a ≤ 65535 :=
  patchI_bd (patchI_bd (wordL_bd _ _).2 (wordL_bd _ _).2 (wordL_bd _ _).1).2 (wordL_bd _ _).2 (wordL_bd _ _).1
theorem tqY_bd (l : List UInt8) (q u k : Nat) (a : Ad) {p : Int} (S : Nat) (hp : 0 ≤ p) : 0 ≤ tqY l q u k a p S ∧ tqY l q u k a p S ≤ 65535 :=
  patchI_bd (patchI_bd (patchI_bd (wordL_bd _ _).2 (wordL_bd _ _).2 (wordL_bd _ _).1).2 (wordL_bd _ _).2 (wordL_bd _ _).1).2 (wordL_bd _ _).2 hp
theorem tqX_bd (l : List UInt8) (q u k : Nat) (a : Ad) {p : Int} (S : Nat) (hp : 0 ≤ p) : 0 ≤ tqX l q u k a p S ∧ tqX l q u k a p S ≤ 65535 := by
  have := tqY_bd l q u k a S hp
  unfold tqX
  split <;> omega
theorem tq_eq {l : List UInt8} {k head : Nat} {a : Ad} {p : Int} (hk : k = 12 ∨ k = 16) (hu : head + 28 ≤ udpAt l head) (hl : udpAt l head + 4 ≤ l.length) (hp : 0 ≤ p ∧ p ≤ 65535) : tqL l head (head + 8) (udpAt l head) k a p = quoteL l k a p head := by
  generalize hU : udpAt l head = u at hu hl
  have b0 := wordL_bd a.2 0
  have b2 := wordL_bd a.2 2
  have hs := tqS_bd l (head + 8) k a
  have hpp : p16 p = p := by unfold p16; omega
  have ci := wordL_bd l (head + 2)
  have cs := wordL_bd l (head + 8 + 10)
  have ck := wordL_bd l (head + 8 + k)
  have ck2 := wordL_bd l (head + 8 + k + 2)
  have cp := wordL_bd l (u + (k - 12) / 2)
  -- the document's: one list with its places
  generalize hS : tqS l (head + 8) k a = s at hs
  have i1 := patchI_bd (now := s) ci.2 cs.2 hs.1
  have i2 := patchI_bd (now := wordL a.2 0) i1.2 ck.2 b0.1
  have i3 := patchI_bd (now := wordL a.2 2) i2.2 ck2.2 b2.1
  have i4 := patchI_bd (now := p) i3.2 cp.2 hp.1
  have e4 : tq4L l head (head + 8) u k a p = setW (setW (setW (setW (setW l (head + 8 + 10) s) (head + 8 + k) (wordL a.2 0)) (head + 8 + k + 2) (wordL a.2 2)) (u + (k - 12) / 2) p) (head + 2) (patchI (patchI (patchI (patchI (wordL l (head + 2)) (wordL l (head + 8 + 10)) s) (wordL l (head + 8 + k)) (wordL a.2 0)) (wordL l (head + 8 + k + 2)) (wordL a.2 2)) (wordL l (u + (k - 12) / 2)) p) := by
    unfold tq4L
    rw [hS, over_0 (l := l) (i := head + 2) (k := head + 8 + 10) (by omega), over_i (by rw [setW_len]; omega) i1 (by omega), wordL_setW_ne (k := head + 8 + 10) (j := head + 8 + k) (by omega)]
    rw [over_i (by rw [setW_len, setW_len]; omega) i2 (by omega), wordL_setW_ne (k := head + 8 + k) (j := head + 8 + k + 2) (by omega), wordL_setW_ne (k := head + 8 + 10) (j := head + 8 + k + 2) (by omega)]
    rw [over_i (by rw [setW_len, setW_len, setW_len]; omega) i3 (by omega), wordL_setW_ne (k := head + 8 + k + 2) (j := u + (k - 12) / 2) (by omega), wordL_setW_ne (k := head + 8 + k) (j := u + (k - 12) / 2) (by omega), wordL_setW_ne (k := head + 8 + 10) (j := u + (k - 12) / 2) (by omega)]
  -- the program's
  have w1 : wordL (q1L l k a head) (head + 8 + 10) = wordL l (head + 8 + 10) := by
    unfold q1L addrAtL
    exact (wordL_setW_ne (by omega)).trans (wordL_setW_ne (by omega))
  have w2 : wordL (setW l (head + 8 + k) (wordL a.2 0)) (head + 8 + k + 2) = wordL l (head + 8 + k + 2) := wordL_setW_ne (by omega)
  have hq1C : q1C l k a head = [(wordL l (head + 8 + k), wordL a.2 0), (wordL l (head + 8 + k + 2), wordL a.2 2)] := by
    unfold q1C addrAtC
    rw [w2]
  have hq2S : q2S l k a head = s := by
    unfold q2S
    rw [w1, hq1C, ← hS]
    rfl
  have hq2L : q2L l k a head = setW (setW (setW l (head + 8 + 10) s) (head + 8 + k) (wordL a.2 0)) (head + 8 + k + 2) (wordL a.2 2) := by
    unfold q2L q1L addrAtL
    rw [hq2S, setW_comm (i := head + 8 + k + 2) (j := head + 8 + 10) (by omega), setW_comm (i := head + 8 + k) (j := head + 8 + 10) (by omega)]
  have w3 : wordL (q2L l k a head) (u + (k - 12) / 2) = wordL l (u + (k - 12) / 2) := by
    rw [hq2L]
    exact (wordL_setW_ne (by omega)).trans ((wordL_setW_ne (by omega)).trans (wordL_setW_ne (by omega)))
  have hq3C : q3C l k a p head = (wordL l (u + (k - 12) / 2), p) := by
    unfold q3C
    rw [hU, w3, hpp]
  have hq3L : q3L l k a p head = setW (setW (setW (setW l (head + 8 + 10) s) (head + 8 + k) (wordL a.2 0)) (head + 8 + k + 2) (wordL a.2 2)) (u + (k - 12) / 2) p := by
    unfold q3L
    rw [hU, hq2L, hpp]
  have hqAll : qAll l k a p head = [(wordL l (head + 8 + 10), s), (wordL l (head + 8 + k), wordL a.2 0), (wordL l (head + 8 + k + 2), wordL a.2 2), (wordL l (u + (k - 12) / 2), p)] := by
    unfold qAll
    rw [w1, hq2S, hq1C, hq3C]
    rfl
  have w6 : u + 8 ≤ l.length → wordL (q3L l k a p head) (u + 6) = wordL l (u + 6) := fun h => by
    rw [hq3L]
    exact (wordL_setW_ne (by omega)).trans ((wordL_setW_ne (by omega)).trans ((wordL_setW_ne (by omega)).trans (wordL_setW_ne (by omega))))
  have wI : wordL (q3L l k a p head) (head + 2) = wordL l (head + 2) := by
    rw [hq3L]
    exact (wordL_setW_ne (by omega)).trans ((wordL_setW_ne (by omega)).trans ((wordL_setW_ne (by omega)).trans (wordL_setW_ne (by omega))))
  by_cases hno : u + 8 > l.length ∨ wordL l (u + 6) = 0
  · have hsa : sumAt l u = -1 := if_pos hno
    unfold tqL
    rw [hsa, if_neg (by omega), e4]
    have h4L : q4L l k a p head = q3L l k a p head := by
      unfold q4L qHas
      rw [hU]
      split
      · rename_i hc
        have hc := of_decide_eq_true hc
        unfold udpL
        rw [w6 hc, if_pos (by rcases hno with h | h; omega; exact h)]
      · rfl
    have h4C : q4C l k a p head = qAll l k a p head := by
      unfold q4C qHas udpB
      rw [hU]
      split
      · rename_i hc
        simp only [Bool.and_eq_true, decide_eq_true_eq] at hc
        rw [w6 hc.1] at hc
        rcases hno with h | h
        · omega
        · exact absurd h hc.2
      · rfl
    unfold quoteL
    rw [h4L, h4C, wI, hqAll, hq3L]
    rfl
  have hU8 : u + 8 ≤ l.length := by omega
  have h60 : wordL l (u + 6) ≠ 0 := fun h => hno (.inr h)
  have hsa : sumAt l u = ((u + 6 : Nat) : Int) := if_neg hno
  have hX := tqX_bd l (head + 8) u k a (u + 6) hp.1
  have hch : patchL (wordL l (u + 6)) (qU l k a p head) = tqY l (head + 8) u k a p (u + 6) := by
    unfold qU
    rw [hq1C, hq3C]
    rfl
  have hudp : udpS (wordL l (u + 6)) (qU l k a p head) = tqX l (head + 8) u k a p (u + 6) := by
    unfold udpS tqX
    rw [hch]
  unfold tqL
  rw [hsa, if_pos (by omega), Int.toNat_natCast, e4]
  generalize tqX l (head + 8) u k a p (u + 6) = x at hX hudp
  rw [over_i (by rw [setW_len, setW_len, setW_len, setW_len]; omega) i4 (by omega)]
  have w7 := w6 hU8
  rw [hq3L] at w7
  rw [w7]
  have h4L : q4L l k a p head = setW (q3L l k a p head) (u + 6) x := by
    unfold q4L qHas
    rw [hU, if_pos (decide_eq_true hU8)]
    unfold udpL
    rw [w6 hU8, if_neg h60, hudp]
  have h4C : q4C l k a p head = qAll l k a p head ++ [(wordL l (u + 6), x)] := by
    unfold q4C qHas udpB udpC
    rw [hU, w6 hU8, if_neg h60, hudp]
    rw [if_pos ⟨decide_eq_true hU8, decide_eq_true h60⟩]
  unfold quoteL
  rw [h4L, h4C, wordL_setW_ne (by omega), wI, hqAll, hq3L]
  rfl
end Go.Proofs.YtofomopdaponbaaGreatDoor
/-
  The document's nat (mosaicref30): the walk of turnQuote.
-/
namespace Go.Proofs.YtofomopdaponbaaGreatDoor
open Go.RowKit
set_option linter.unusedVariables false
set_option linter.unusedSimpArgs false

theorem Does.same {P : Program} {f : FuncId} {args : List Value} {w0 w : World} {v : Value} (h : Does P f args w (fun u w' => u = v ∧ w = w')) (hw : Only [] w0 w) : Does P f args w (fun u w' => u = v ∧ Only [] w0 w') := h.mono (fun _ _ e => ⟨e.1, e.2 ▸ hw⟩)
set_option maxHeartbeats 8000000 in
set_option maxRecDepth 100000 in
theorem rtq12_does {w : World} {F : List Nat} {A : Option Addr} {n c head u : Nat} {l : List UInt8} {a : Ad} {p : Int} (h : Row w 5 1 F A n c (l.map u8)) (hhu : head + 28 ≤ u) (hu : u + 4 ≤ n) (hn : n ≤ 65535) (ha : okAd a) (hp : 0 ≤ p ∧ p ≤ 65535) :
    Does Tryz.prog 121 [.slice A n c, .int .i64 head, .int .i64 ((head + 8 : Nat) : Int), .int .i64 (u : Nat), .bool false, .agg ⟨adC a⟩, .int .i64 p] w (fun v w' => v = .tuple ⟨[]⟩ ∧ Row w' 5 1 F A n c ((tqL l head (head + 8) u 12 a p).map u8) ∧ Only F w w') := by
  have hl := h.len8
  have b0 := wordL_bd a.2 0
  have b2 := wordL_bd a.2 2
  have b8 := Blk.new w 24 ⟨adC a⟩
  have hA := Only.alloc (Only.refl [] w) (.cells ⟨adC a⟩ 24)
  have h0 := h.only hA (by simp)
  have hF8 : w.heap.size ∉ F := fun hm => by have := h.lt _ hm; omega
  have eI : IntKind.i64.wrap ((head : Int) + 2) = ((head + 2 : Nat) : Int) := by rw [wi64]; omega
  have eAt : IntKind.i64.wrap (((head + 8 : Nat) : Int) + 12) = ((head + 8 + 12 : Nat) : Int) := by rw [wi64]; omega
  have eAt2 : IntKind.i64.wrap (((head + 8 + 12 : Nat) : Int) + 2) = ((head + 8 + 12 + 2 : Nat) : Int) := by rw [wi64]; omega
  have eQ : IntKind.i64.wrap (((head + 8 : Nat) : Int) + 10) = ((head + 8 + 10 : Nat) : Int) := by rw [wi64]; omega
  have hs := tqS_bd l (head + 8) 12 a
  refine Does.enter (fn := Tryz.f121) (by kernel_rfl) rfl (by kernel_rfl) (by kernel_rfl) ?_
  conv => whnf
  rw [eI]
  conv => whnf
  rw [eAt]
  conv => whnf
  refine VJoin.go (by kernel_rfl) ?_
  conv => whnf
  refine (rudpSum_does (k := u) h0.bs (by omega) (by omega)).mono ?_
  rintro v w1 ⟨rfl, ho1⟩
  have h1 := h0.only ho1 (by simp)
  have b81 := b8.only ho1 (by simp)
  have how1 := hA.t0 ho1
  conv => whnf
  rw [eQ]
  refine (rget30_does (k := head + 8 + 10) h1.bs (by omega) (by omega)).mono ?_
  rintro v w2 ⟨rfl, ho2⟩
  have h2 := h1.only ho2 (by simp)
  have b82 := b81.only ho2 (by simp)
  have how2 := how1.t0 ho2
  have c10 := wordL_bd l (head + 8 + 10)
  have ck := wordL_bd l (head + 8 + 12)
  have ck2 := wordL_bd l (head + 8 + 12 + 2)
  have cp := wordL_bd l (u)
  have p1 := patchI_bd (now := wordL a.2 0) c10.2 ck.2 b0.1
  conv => whnf
  refine VDraw.abs fun N1 hN1 => ?_
  refine VDraw.q (by kernel_rfl) (by kernel_rfl) ?_
  conv => whnf
  refine ⟨_, fun w' hw' => (rget30_does (k := head + 8 + 12) (h2.only hw' (by simp)).bs (by omega) (by omega)).q hw', ?_⟩
  conv => whnf
  refine ⟨_, fun w' hw' => Loads.all (b82.only hw' (by simp)) (by kernel_rfl) (by rw [adC_len ha]; kernel_rfl), ?_⟩
  conv => whnf
  refine ⟨_, fun w' hw' => (rword_does (i := 0) ha (by decide)).q hw', ?_⟩
  conv => whnf
  refine ⟨_, fun w' hw' => (rpatch_does c10 ck b0).same hw', ?_⟩
  conv => whnf
  intro w3 ho3
  refine hN1 _ _ ?_
  have h3 := h2.only ho3 (by simp)
  have b83 := b82.only ho3 (by simp)
  have how3 := how2.t0 ho3
  conv => whnf
  refine VDraw.abs fun N2 hN2 => ?_
  refine VDraw.q (by kernel_rfl) (by kernel_rfl) ?_
  conv => whnf
  rw [eAt2]
  refine ⟨_, fun w' hw' => (rget30_does (k := head + 8 + 12 + 2) (h3.only hw' (by simp)).bs (by omega) (by omega)).q hw', ?_⟩
  conv => whnf
  refine ⟨_, fun w' hw' => Loads.all (b83.only hw' (by simp)) (by kernel_rfl) (by rw [adC_len ha]; kernel_rfl), ?_⟩
  conv => whnf
  refine ⟨_, fun w' hw' => (rword_does (i := 1) ha (by decide)).q hw', ?_⟩
  conv => whnf
  refine ⟨_, fun w' hw' => (rpatch_does p1 ck2 b2).same hw', ?_⟩
  conv => whnf
  intro w4 ho4
  refine hN2 _ _ ?_
  have h4 := h3.only ho4 (by simp)
  have b84 := b83.only ho4 (by simp)
  have how4 := how3.t0 ho4
  have eS : patchI (patchI (wordL l (head + 8 + 10)) (wordL l (head + 8 + 12)) (wordL a.2 0)) (wordL l (head + 8 + 12 + 2)) (wordL a.2 2) = tqS l (head + 8) 12 a := rfl
  generalize hsS : tqS l (head + 8) 12 a = s at hs eS
  by_cases hno : u + 8 > l.length ∨ wordL l (u + 6) = 0
  · have hsa : sumAt l u = -1 := if_pos hno
    have hfin : tqL l head (head + 8) u 12 a p = tq4L l head (head + 8) u 12 a p := by
      unfold tqL
      rw [hsa, if_neg (by omega)]
    rw [hfin]
    unfold tq4L
    rw [hsS]
    conv => whnf
    rw [eS, hsa]
    conv => whnf
    refine VJoin.go (by kernel_rfl) ?_
    conv => whnf
    rw [eQ]
    have hs5 := Sl.new w4 3 1 [.int .i64 ((head + 2 : Nat) : Int)] 1 rfl
    have hal5 := (Only.refl [] w4).alloc (.cells ⟨[Value.int .i64 ((head + 2 : Nat) : Int)]⟩ 3)
    refine (rover_does (k := head + 8 + 10) (zs := [((head + 2 : Nat) : Int)]) (h4.only hal5 (by simp)) (by omega) hs.1 hs.2 (by omega) hs5 (fun y hy hm => ?_) (by intro y hy; simp at hy; omega) (by decide)).mono ?_
    · obtain rfl : y = w4.heap.size := by simpa using hy
      have := h4.lt _ hm
      omega
    rintro v w5 ⟨rfl, h5, ho5⟩
    have how5 : Only F w w5 := how4.up.ff ((hal5).zf ho5)
    have b85 := b84.only ((hal5).zf ho5) hF8
    conv => whnf
    refine ⟨_, Loads.all b85 (by kernel_rfl) (by rw [adC_len ha]; kernel_rfl), ?_⟩
    conv => whnf
    (refine (rword_does (i := 0) ha (by decide)).mono ?_; rintro v w6 ⟨rfl, ho6⟩)
    conv => whnf
    have h6 := h5.only ho6 (by simp)
    have b86 := b85.only ho6 (by simp)
    have hs7 := Sl.new w6 3 1 [.int .i64 ((head + 2 : Nat) : Int)] 1 rfl
    have hal7 := (Only.refl [] w6).alloc (.cells ⟨[Value.int .i64 ((head + 2 : Nat) : Int)]⟩ 3)
    refine (rover_does (k := head + 8 + 12) (zs := [((head + 2 : Nat) : Int)]) (h6.only hal7 (by simp)) (by omega) b0.1 b0.2 (by omega) hs7 (fun y hy hm => ?_) (by intro y hy; simp at hy; omega) (by decide)).mono ?_
    · obtain rfl : y = w6.heap.size := by simpa using hy
      have := h6.lt _ hm
      omega
    rintro v w7 ⟨rfl, h7, ho7⟩
    have how7 : Only F w w7 := how5.ff ((ho6.t0 hal7).zf ho7)
    have b87 := b86.only (hal7.zf ho7) hF8
    conv => whnf
    rw [eAt2]
    refine ⟨_, Loads.all b87 (by kernel_rfl) (by rw [adC_len ha]; kernel_rfl), ?_⟩
    conv => whnf
    (refine (rword_does (i := 1) ha (by decide)).mono ?_; rintro v w8 ⟨rfl, ho8⟩)
    conv => whnf
    have h8 := h7.only ho8 (by simp)
    have hs9 := Sl.new w8 3 1 [.int .i64 ((head + 2 : Nat) : Int)] 1 rfl
    have hal9 := (Only.refl [] w8).alloc (.cells ⟨[Value.int .i64 ((head + 2 : Nat) : Int)]⟩ 3)
    refine (rover_does (k := head + 8 + 12 + 2) (zs := [((head + 2 : Nat) : Int)]) (h8.only hal9 (by simp)) (by omega) b2.1 b2.2 (by omega) hs9 (fun y hy hm => ?_) (by intro y hy; simp at hy; omega) (by decide)).mono ?_
    · obtain rfl : y = w8.heap.size := by simpa using hy
      have := h8.lt _ hm
      omega
    rintro v w9 ⟨rfl, h9, ho9⟩
    have how9 : Only F w w9 := how7.ff ((ho8.t0 hal9).zf ho9)
    conv => whnf
    have hs10 := Sl.new w9 3 1 [.int .i64 ((head + 2 : Nat) : Int)] 1 rfl
    have hal10 := (Only.refl [] w9).alloc (.cells ⟨[Value.int .i64 ((head + 2 : Nat) : Int)]⟩ 3)
    refine (rover_does (k := u) (zs := [((head + 2 : Nat) : Int)]) (h9.only hal10 (by simp)) (by omega) hp.1 hp.2 (by omega) hs10 (fun y hy hm => ?_) (by intro y hy; simp at hy; omega) (by decide)).mono ?_
    · obtain rfl : y = w9.heap.size := by simpa using hy
      have := h9.lt _ hm
      omega
    rintro v w10 ⟨rfl, h10, ho10⟩
    have how10 : Only F w w10 := how9.ff (hal10.zf ho10)
    conv => whnf
    exact ⟨rfl, h10, how10⟩
  · have hsa : sumAt l u = ((u + 6 : Nat) : Int) := if_neg hno
    have hfin : tqL l head (head + 8) u 12 a p = overL (tq4L l head (head + 8) u 12 a p) (u + 6) (tqX l (head + 8) u 12 a p (u + 6)) [((head + 2 : Nat) : Int)] := by
      unfold tqL
      rw [hsa, if_pos (by omega), Int.toNat_natCast]
    have hXb := tqX_bd l (head + 8) u 12 a (u + 6) hp.1
    rw [hfin]
    unfold tq4L
    rw [hsS]
    have hY := tqY_bd l (head + 8) u 12 a (u + 6) hp.1
    have cS := wordL_bd l (u + 6)
    have y1 := patchI_bd (now := wordL a.2 0) cS.2 ck.2 b0.1
    have y2 := patchI_bd (now := wordL a.2 2) y1.2 ck2.2 b2.1
    have eY : patchI (patchI (patchI (wordL l (u + 6)) (wordL l (head + 8 + 12)) (wordL a.2 0)) (wordL l (head + 8 + 12 + 2)) (wordL a.2 2)) (wordL l (u)) p = tqY l (head + 8) u 12 a p (u + 6) := rfl
    conv => whnf
    rw [eS, hsa]
    conv => whnf
    refine VJoin.go (by kernel_rfl) ?_
    conv => whnf
    refine (rget30_does (k := u + 6) h4.bs (by omega) (by omega)).mono ?_
    rintro v wa ⟨rfl, hoa⟩
    have ha4 := h4.only hoa (by simp)
    have b8a := b84.only hoa (by simp)
    conv => whnf
    refine VDraw.abs fun N3 hN3 => ?_
    refine VDraw.q (by kernel_rfl) (by kernel_rfl) ?_
    conv => whnf
    refine ⟨_, fun w' hw' => (rget30_does (k := head + 8 + 12) (ha4.only hw' (by simp)).bs (by omega) (by omega)).q hw', ?_⟩
    conv => whnf
    refine ⟨_, fun w' hw' => Loads.all (b8a.only hw' (by simp)) (by kernel_rfl) (by rw [adC_len ha]; kernel_rfl), ?_⟩
    conv => whnf
    refine ⟨_, fun w' hw' => (rword_does (i := 0) ha (by decide)).q hw', ?_⟩
    conv => whnf
    refine ⟨_, fun w' hw' => (rpatch_does cS ck b0).same hw', ?_⟩
    conv => whnf
    intro wb hob
    refine hN3 _ _ ?_
    have hb4 := ha4.only hob (by simp)
    have b8b := b8a.only hob (by simp)
    conv => whnf
    refine VDraw.abs fun N4 hN4 => ?_
    refine VDraw.q (by kernel_rfl) (by kernel_rfl) ?_
    conv => whnf
    rw [eAt2]
    refine ⟨_, fun w' hw' => (rget30_does (k := head + 8 + 12 + 2) (hb4.only hw' (by simp)).bs (by omega) (by omega)).q hw', ?_⟩
    conv => whnf
    refine ⟨_, fun w' hw' => Loads.all (b8b.only hw' (by simp)) (by kernel_rfl) (by rw [adC_len ha]; kernel_rfl), ?_⟩
    conv => whnf
    refine ⟨_, fun w' hw' => (rword_does (i := 1) ha (by decide)).q hw', ?_⟩
    conv => whnf
    refine ⟨_, fun w' hw' => (rpatch_does y1 ck2 b2).same hw', ?_⟩
    conv => whnf
    intro wc hoc
    refine hN4 _ _ ?_
    have hc4 := hb4.only hoc (by simp)
    have b8c := b8b.only hoc (by simp)
    conv => whnf
    refine (rget30_does (k := u) hc4.bs (by omega) (by omega)).mono ?_
    rintro v wd ⟨rfl, hod⟩
    have hd4 := hc4.only hod (by simp)
    have b8d := b8c.only hod (by simp)
    have howd := (((how4.t0 hoa).t0 hob).t0 hoc).t0 hod
    conv => whnf
    refine (rpatch_does y2 cp hp).mono ?_
    rintro v w' ⟨rfl, rfl⟩
    rw [eY]
    have hX : tqX l (head + 8) u 12 a p (u + 6) = if tqY l (head + 8) u 12 a p (u + 6) = 0 then 65535 else tqY l (head + 8) u 12 a p (u + 6) := rfl
    generalize tqY l (head + 8) u 12 a p (u + 6) = y at hY hX
    generalize tqX l (head + 8) u 12 a p (u + 6) = x at hXb hX
    conv => whnf
    refine VIf.eq (fun hz => ?_) (fun hz => ?_)
    all_goals
      first
      | rw [if_pos hz] at hX
      | rw [if_neg hz] at hX
      conv => whnf
      subst hX
      rw [eQ]
      have hs5 := Sl.new wd 3 1 [.int .i64 ((head + 2 : Nat) : Int)] 1 rfl
      have hal5 := (Only.refl [] wd).alloc (.cells ⟨[Value.int .i64 ((head + 2 : Nat) : Int)]⟩ 3)
      refine (rover_does (k := head + 8 + 10) (zs := [((head + 2 : Nat) : Int)]) (hd4.only hal5 (by simp)) (by omega) hs.1 hs.2 (by omega) hs5 (fun y hy hm => ?_) (by intro y hy; simp at hy; omega) (by decide)).mono ?_
      · obtain rfl : y = wd.heap.size := by simpa using hy
        have := hd4.lt _ hm
        omega
      rintro v w5 ⟨rfl, h5, ho5⟩
      have how5 : Only F w w5 := howd.up.ff ((hal5).zf ho5)
      have b85 := b8d.only ((hal5).zf ho5) hF8
      conv => whnf
      refine ⟨_, Loads.all b85 (by kernel_rfl) (by rw [adC_len ha]; kernel_rfl), ?_⟩
      conv => whnf
      (refine (rword_does (i := 0) ha (by decide)).mono ?_; rintro v w6 ⟨rfl, ho6⟩)
      conv => whnf
      have h6 := h5.only ho6 (by simp)
      have b86 := b85.only ho6 (by simp)
      have hs7 := Sl.new w6 3 1 [.int .i64 ((head + 2 : Nat) : Int)] 1 rfl
      have hal7 := (Only.refl [] w6).alloc (.cells ⟨[Value.int .i64 ((head + 2 : Nat) : Int)]⟩ 3)
      refine (rover_does (k := head + 8 + 12) (zs := [((head + 2 : Nat) : Int)]) (h6.only hal7 (by simp)) (by omega) b0.1 b0.2 (by omega) hs7 (fun y hy hm => ?_) (by intro y hy; simp at hy; omega) (by decide)).mono ?_
      · obtain rfl : y = w6.heap.size := by simpa using hy
        have := h6.lt _ hm
        omega
      rintro v w7 ⟨rfl, h7, ho7⟩
      have how7 : Only F w w7 := how5.ff ((ho6.t0 hal7).zf ho7)
      have b87 := b86.only (hal7.zf ho7) hF8
      conv => whnf
      rw [eAt2]
      refine ⟨_, Loads.all b87 (by kernel_rfl) (by rw [adC_len ha]; kernel_rfl), ?_⟩
      conv => whnf
      (refine (rword_does (i := 1) ha (by decide)).mono ?_; rintro v w8 ⟨rfl, ho8⟩)
      conv => whnf
      have h8 := h7.only ho8 (by simp)
      have hs9 := Sl.new w8 3 1 [.int .i64 ((head + 2 : Nat) : Int)] 1 rfl
      have hal9 := (Only.refl [] w8).alloc (.cells ⟨[Value.int .i64 ((head + 2 : Nat) : Int)]⟩ 3)
      refine (rover_does (k := head + 8 + 12 + 2) (zs := [((head + 2 : Nat) : Int)]) (h8.only hal9 (by simp)) (by omega) b2.1 b2.2 (by omega) hs9 (fun y hy hm => ?_) (by intro y hy; simp at hy; omega) (by decide)).mono ?_
      · obtain rfl : y = w8.heap.size := by simpa using hy
        have := h8.lt _ hm
        omega
      rintro v w9 ⟨rfl, h9, ho9⟩
      have how9 : Only F w w9 := how7.ff ((ho8.t0 hal9).zf ho9)
      conv => whnf
      have hs10 := Sl.new w9 3 1 [.int .i64 ((head + 2 : Nat) : Int)] 1 rfl
      have hal10 := (Only.refl [] w9).alloc (.cells ⟨[Value.int .i64 ((head + 2 : Nat) : Int)]⟩ 3)
      refine (rover_does (k := u) (zs := [((head + 2 : Nat) : Int)]) (h9.only hal10 (by simp)) (by omega) hp.1 hp.2 (by omega) hs10 (fun y hy hm => ?_) (by intro y hy; simp at hy; omega) (by decide)).mono ?_
      · obtain rfl : y = w9.heap.size := by simpa using hy
        have := h9.lt _ hm
        omega
      rintro v w10 ⟨rfl, h10, ho10⟩
      have how10 : Only F w w10 := how9.ff (hal10.zf ho10)
      conv => whnf
      have hs11 := Sl.new w10 3 1 [.int .i64 ((head + 2 : Nat) : Int)] 1 rfl
      have hal11 := (Only.refl [] w10).alloc (.cells ⟨[Value.int .i64 ((head + 2 : Nat) : Int)]⟩ 3)
      refine (rover_does (k := u + 6) (zs := [((head + 2 : Nat) : Int)]) (h10.only hal11 (by simp)) (by omega) hXb.1 hXb.2 (by omega) hs11 (fun y hy hm => ?_) (by intro y hy; simp at hy; omega) (by decide)).mono ?_
      · obtain rfl : y = w10.heap.size := by simpa using hy
        have := h10.lt _ hm
        omega
      rintro v w11 ⟨rfl, h11, ho11⟩
      conv => whnf
      exact ⟨rfl, h11, how10.ff (hal11.zf ho11)⟩
set_option maxHeartbeats 8000000 in
set_option maxRecDepth 100000 in
theorem rtq16_does {w : World} {F : List Nat} {A : Option Addr} {n c head u : Nat} {l : List UInt8} {a : Ad} {p : Int} (h : Row w 5 1 F A n c (l.map u8)) (hhu : head + 28 ≤ u) (hu : u + 4 ≤ n) (hn : n ≤ 65535) (ha : okAd a) (hp : 0 ≤ p ∧ p ≤ 65535) :
    Does Tryz.prog 121 [.slice A n c, .int .i64 head, .int .i64 ((head + 8 : Nat) : Int), .int .i64 (u : Nat), .bool true, .agg ⟨adC a⟩, .int .i64 p] w (fun v w' => v = .tuple ⟨[]⟩ ∧ Row w' 5 1 F A n c ((tqL l head (head + 8) u 16 a p).map u8) ∧ Only F w w') := by
  have hl := h.len8
  have b0 := wordL_bd a.2 0
  have b2 := wordL_bd a.2 2
  have b8 := Blk.new w 24 ⟨adC a⟩
  have hA := Only.alloc (Only.refl [] w) (.cells ⟨adC a⟩ 24)
  have h0 := h.only hA (by simp)
  have hF8 : w.heap.size ∉ F := fun hm => by have := h.lt _ hm; omega
  have eI : IntKind.i64.wrap ((head : Int) + 2) = ((head + 2 : Nat) : Int) := by rw [wi64]; omega
  have eAt : IntKind.i64.wrap (((head + 8 : Nat) : Int) + 16) = ((head + 8 + 16 : Nat) : Int) := by rw [wi64]; omega
  have eAt2 : IntKind.i64.wrap (((head + 8 + 16 : Nat) : Int) + 2) = ((head + 8 + 16 + 2 : Nat) : Int) := by rw [wi64]; omega
  have eQ : IntKind.i64.wrap (((head + 8 : Nat) : Int) + 10) = ((head + 8 + 10 : Nat) : Int) := by rw [wi64]; omega
  have eP : IntKind.i64.wrap ((u : Int) + 2) = ((u + 2 : Nat) : Int) := by rw [wi64]; omega
  have hs := tqS_bd l (head + 8) 16 a
  refine Does.enter (fn := Tryz.f121) (by kernel_rfl) rfl (by kernel_rfl) (by kernel_rfl) ?_
  conv => whnf
  rw [eI]
  conv => whnf
  refine VJoin.go (by kernel_rfl) ?_
  conv => whnf
  rw [eAt]
  conv => whnf
  rw [eP]
  conv => whnf
  refine (rudpSum_does (k := u) h0.bs (by omega) (by omega)).mono ?_
  rintro v w1 ⟨rfl, ho1⟩
  have h1 := h0.only ho1 (by simp)
  have b81 := b8.only ho1 (by simp)
  have how1 := hA.t0 ho1
  conv => whnf
  rw [eQ]
  refine (rget30_does (k := head + 8 + 10) h1.bs (by omega) (by omega)).mono ?_
  rintro v w2 ⟨rfl, ho2⟩
  have h2 := h1.only ho2 (by simp)
  have b82 := b81.only ho2 (by simp)
  have how2 := how1.t0 ho2
  have c10 := wordL_bd l (head + 8 + 10)
  have ck := wordL_bd l (head + 8 + 16)
  have ck2 := wordL_bd l (head + 8 + 16 + 2)
  have cp := wordL_bd l (u + 2)
  have p1 := patchI_bd (now := wordL a.2 0) c10.2 ck.2 b0.1
  conv => whnf
  refine VDraw.abs fun N1 hN1 => ?_
  refine VDraw.q (by kernel_rfl) (by kernel_rfl) ?_
  conv => whnf
  refine ⟨_, fun w' hw' => (rget30_does (k := head + 8 + 16) (h2.only hw' (by simp)).bs (by omega) (by omega)).q hw', ?_⟩
  conv => whnf
  refine ⟨_, fun w' hw' => Loads.all (b82.only hw' (by simp)) (by kernel_rfl) (by rw [adC_len ha]; kernel_rfl), ?_⟩
  conv => whnf
  refine ⟨_, fun w' hw' => (rword_does (i := 0) ha (by decide)).q hw', ?_⟩
  conv => whnf
  refine ⟨_, fun w' hw' => (rpatch_does c10 ck b0).same hw', ?_⟩
  conv => whnf
  intro w3 ho3
  refine hN1 _ _ ?_
  have h3 := h2.only ho3 (by simp)
  have b83 := b82.only ho3 (by simp)
  have how3 := how2.t0 ho3
  conv => whnf
  refine VDraw.abs fun N2 hN2 => ?_
  refine VDraw.q (by kernel_rfl) (by kernel_rfl) ?_
  conv => whnf
  rw [eAt2]
  refine ⟨_, fun w' hw' => (rget30_does (k := head + 8 + 16 + 2) (h3.only hw' (by simp)).bs (by omega) (by omega)).q hw', ?_⟩
  conv => whnf
  refine ⟨_, fun w' hw' => Loads.all (b83.only hw' (by simp)) (by kernel_rfl) (by rw [adC_len ha]; kernel_rfl), ?_⟩
  conv => whnf
  refine ⟨_, fun w' hw' => (rword_does (i := 1) ha (by decide)).q hw', ?_⟩
  conv => whnf
  refine ⟨_, fun w' hw' => (rpatch_does p1 ck2 b2).same hw', ?_⟩
  conv => whnf
  intro w4 ho4
  refine hN2 _ _ ?_
  have h4 := h3.only ho4 (by simp)
  have b84 := b83.only ho4 (by simp)
  have how4 := how3.t0 ho4
  have eS : patchI (patchI (wordL l (head + 8 + 10)) (wordL l (head + 8 + 16)) (wordL a.2 0)) (wordL l (head + 8 + 16 + 2)) (wordL a.2 2) = tqS l (head + 8) 16 a := rfl
  generalize hsS : tqS l (head + 8) 16 a = s at hs eS
  by_cases hno : u + 8 > l.length ∨ wordL l (u + 6) = 0
  · have hsa : sumAt l u = -1 := if_pos hno
    have hfin : tqL l head (head + 8) u 16 a p = tq4L l head (head + 8) u 16 a p := by
      unfold tqL
      rw [hsa, if_neg (by omega)]
    rw [hfin]
    unfold tq4L
    rw [hsS]
    conv => whnf
    rw [eS, hsa]
    conv => whnf
    refine VJoin.go (by kernel_rfl) ?_
    conv => whnf
    rw [eQ]
    have hs5 := Sl.new w4 3 1 [.int .i64 ((head + 2 : Nat) : Int)] 1 rfl
    have hal5 := (Only.refl [] w4).alloc (.cells ⟨[Value.int .i64 ((head + 2 : Nat) : Int)]⟩ 3)
    refine (rover_does (k := head + 8 + 10) (zs := [((head + 2 : Nat) : Int)]) (h4.only hal5 (by simp)) (by omega) hs.1 hs.2 (by omega) hs5 (fun y hy hm => ?_) (by intro y hy; simp at hy; omega) (by decide)).mono ?_
    · obtain rfl : y = w4.heap.size := by simpa using hy
      have := h4.lt _ hm
      omega
    rintro v w5 ⟨rfl, h5, ho5⟩
    have how5 : Only F w w5 := how4.up.ff ((hal5).zf ho5)
    have b85 := b84.only ((hal5).zf ho5) hF8
    conv => whnf
    refine ⟨_, Loads.all b85 (by kernel_rfl) (by rw [adC_len ha]; kernel_rfl), ?_⟩
    conv => whnf
    (refine (rword_does (i := 0) ha (by decide)).mono ?_; rintro v w6 ⟨rfl, ho6⟩)
    conv => whnf
    have h6 := h5.only ho6 (by simp)
    have b86 := b85.only ho6 (by simp)
    have hs7 := Sl.new w6 3 1 [.int .i64 ((head + 2 : Nat) : Int)] 1 rfl
    have hal7 := (Only.refl [] w6).alloc (.cells ⟨[Value.int .i64 ((head + 2 : Nat) : Int)]⟩ 3)
    refine (rover_does (k := head + 8 + 16) (zs := [((head + 2 : Nat) : Int)]) (h6.only hal7 (by simp)) (by omega) b0.1 b0.2 (by omega) hs7 (fun y hy hm => ?_) (by intro y hy; simp at hy; omega) (by decide)).mono ?_
    · obtain rfl : y = w6.heap.size := by simpa using hy
      have := h6.lt _ hm
      omega
    rintro v w7 ⟨rfl, h7, ho7⟩
    have how7 : Only F w w7 := how5.ff ((ho6.t0 hal7).zf ho7)
    have b87 := b86.only (hal7.zf ho7) hF8
    conv => whnf
    rw [eAt2]
    refine ⟨_, Loads.all b87 (by kernel_rfl) (by rw [adC_len ha]; kernel_rfl), ?_⟩
    conv => whnf
    (refine (rword_does (i := 1) ha (by decide)).mono ?_; rintro v w8 ⟨rfl, ho8⟩)
    conv => whnf
    have h8 := h7.only ho8 (by simp)
    have hs9 := Sl.new w8 3 1 [.int .i64 ((head + 2 : Nat) : Int)] 1 rfl
    have hal9 := (Only.refl [] w8).alloc (.cells ⟨[Value.int .i64 ((head + 2 : Nat) : Int)]⟩ 3)
    refine (rover_does (k := head + 8 + 16 + 2) (zs := [((head + 2 : Nat) : Int)]) (h8.only hal9 (by simp)) (by omega) b2.1 b2.2 (by omega) hs9 (fun y hy hm => ?_) (by intro y hy; simp at hy; omega) (by decide)).mono ?_
    · obtain rfl : y = w8.heap.size := by simpa using hy
      have := h8.lt _ hm
      omega
    rintro v w9 ⟨rfl, h9, ho9⟩
    have how9 : Only F w w9 := how7.ff ((ho8.t0 hal9).zf ho9)
    conv => whnf
    have hs10 := Sl.new w9 3 1 [.int .i64 ((head + 2 : Nat) : Int)] 1 rfl
    have hal10 := (Only.refl [] w9).alloc (.cells ⟨[Value.int .i64 ((head + 2 : Nat) : Int)]⟩ 3)
    refine (rover_does (k := u + 2) (zs := [((head + 2 : Nat) : Int)]) (h9.only hal10 (by simp)) (by omega) hp.1 hp.2 (by omega) hs10 (fun y hy hm => ?_) (by intro y hy; simp at hy; omega) (by decide)).mono ?_
    · obtain rfl : y = w9.heap.size := by simpa using hy
      have := h9.lt _ hm
      omega
    rintro v w10 ⟨rfl, h10, ho10⟩
    have how10 : Only F w w10 := how9.ff (hal10.zf ho10)
    conv => whnf
    exact ⟨rfl, h10, how10⟩
  · have hsa : sumAt l u = ((u + 6 : Nat) : Int) := if_neg hno
    have hfin : tqL l head (head + 8) u 16 a p = overL (tq4L l head (head + 8) u 16 a p) (u + 6) (tqX l (head + 8) u 16 a p (u + 6)) [((head + 2 : Nat) : Int)] := by
      unfold tqL
      rw [hsa, if_pos (by omega), Int.toNat_natCast]
    have hXb := tqX_bd l (head + 8) u 16 a (u + 6) hp.1
    rw [hfin]
    unfold tq4L
    rw [hsS]
    have hY := tqY_bd l (head + 8) u 16 a (u + 6) hp.1
    have cS := wordL_bd l (u + 6)
    have y1 := patchI_bd (now := wordL a.2 0) cS.2 ck.2 b0.1
    have y2 := patchI_bd (now := wordL a.2 2) y1.2 ck2.2 b2.1
    have eY : patchI (patchI (patchI (wordL l (u + 6)) (wordL l (head + 8 + 16)) (wordL a.2 0)) (wordL l (head + 8 + 16 + 2)) (wordL a.2 2)) (wordL l (u + 2)) p = tqY l (head + 8) u 16 a p (u + 6) := rfl
    conv => whnf
    rw [eS, hsa]
    conv => whnf
    refine VJoin.go (by kernel_rfl) ?_
    conv => whnf
    refine (rget30_does (k := u + 6) h4.bs (by omega) (by omega)).mono ?_
    rintro v wa ⟨rfl, hoa⟩
    have ha4 := h4.only hoa (by simp)
    have b8a := b84.only hoa (by simp)
    conv => whnf
    refine VDraw.abs fun N3 hN3 => ?_
    refine VDraw.q (by kernel_rfl) (by kernel_rfl) ?_
    conv => whnf
    refine ⟨_, fun w' hw' => (rget30_does (k := head + 8 + 16) (ha4.only hw' (by simp)).bs (by omega) (by omega)).q hw', ?_⟩
    conv => whnf
    refine ⟨_, fun w' hw' => Loads.all (b8a.only hw' (by simp)) (by kernel_rfl) (by rw [adC_len ha]; kernel_rfl), ?_⟩
    conv => whnf
    refine ⟨_, fun w' hw' => (rword_does (i := 0) ha (by decide)).q hw', ?_⟩
    conv => whnf
    refine ⟨_, fun w' hw' => (rpatch_does cS ck b0).same hw', ?_⟩
    conv => whnf
    intro wb hob
    refine hN3 _ _ ?_
    have hb4 := ha4.only hob (by simp)
    have b8b := b8a.only hob (by simp)
    conv => whnf
    refine VDraw.abs fun N4 hN4 => ?_
    refine VDraw.q (by kernel_rfl) (by kernel_rfl) ?_
    conv => whnf
    rw [eAt2]
    refine ⟨_, fun w' hw' => (rget30_does (k := head + 8 + 16 + 2) (hb4.only hw' (by simp)).bs (by omega) (by omega)).q hw', ?_⟩
    conv => whnf
    refine ⟨_, fun w' hw' => Loads.all (b8b.only hw' (by simp)) (by kernel_rfl) (by rw [adC_len ha]; kernel_rfl), ?_⟩
    conv => whnf
    refine ⟨_, fun w' hw' => (rword_does (i := 1) ha (by decide)).q hw', ?_⟩
    conv => whnf
    refine ⟨_, fun w' hw' => (rpatch_does y1 ck2 b2).same hw', ?_⟩
    conv => whnf
    intro wc hoc
    refine hN4 _ _ ?_
    have hc4 := hb4.only hoc (by simp)
    have b8c := b8b.only hoc (by simp)
    conv => whnf
    refine (rget30_does (k := u + 2) hc4.bs (by omega) (by omega)).mono ?_
    rintro v wd ⟨rfl, hod⟩
    have hd4 := hc4.only hod (by simp)
    have b8d := b8c.only hod (by simp)
    have howd := (((how4.t0 hoa).t0 hob).t0 hoc).t0 hod
    conv => whnf
    refine (rpatch_does y2 cp hp).mono ?_
    rintro v w' ⟨rfl, rfl⟩
    rw [eY]
    have hX : tqX l (head + 8) u 16 a p (u + 6) = if tqY l (head + 8) u 16 a p (u + 6) = 0 then 65535 else tqY l (head + 8) u 16 a p (u + 6) := rfl
    generalize tqY l (head + 8) u 16 a p (u + 6) = y at hY hX
    generalize tqX l (head + 8) u 16 a p (u + 6) = x at hXb hX
    conv => whnf
    refine VIf.eq (fun hz => ?_) (fun hz => ?_)
    all_goals
      first
      | rw [if_pos hz] at hX
      | rw [if_neg hz] at hX
      conv => whnf
      subst hX
      rw [eQ]
      have hs5 := Sl.new wd 3 1 [.int .i64 ((head + 2 : Nat) : Int)] 1 rfl
      have hal5 := (Only.refl [] wd).alloc (.cells ⟨[Value.int .i64 ((head + 2 : Nat) : Int)]⟩ 3)
      refine (rover_does (k := head + 8 + 10) (zs := [((head + 2 : Nat) : Int)]) (hd4.only hal5 (by simp)) (by omega) hs.1 hs.2 (by omega) hs5 (fun y hy hm => ?_) (by intro y hy; simp at hy; omega) (by decide)).mono ?_
      · obtain rfl : y = wd.heap.size := by simpa using hy
        have := hd4.lt _ hm
        omega
      rintro v w5 ⟨rfl, h5, ho5⟩
      have how5 : Only F w w5 := howd.up.ff ((hal5).zf ho5)
      have b85 := b8d.only ((hal5).zf ho5) hF8
      conv => whnf
      refine ⟨_, Loads.all b85 (by kernel_rfl) (by rw [adC_len ha]; kernel_rfl), ?_⟩
      conv => whnf
      (refine (rword_does (i := 0) ha (by decide)).mono ?_; rintro v w6 ⟨rfl, ho6⟩)
      conv => whnf
      have h6 := h5.only ho6 (by simp)
      have b86 := b85.only ho6 (by simp)
      have hs7 := Sl.new w6 3 1 [.int .i64 ((head + 2 : Nat) : Int)] 1 rfl
      have hal7 := (Only.refl [] w6).alloc (.cells ⟨[Value.int .i64 ((head + 2 : Nat) : Int)]⟩ 3)
      refine (rover_does (k := head + 8 + 16) (zs := [((head + 2 : Nat) : Int)]) (h6.only hal7 (by simp)) (by omega) b0.1 b0.2 (by omega) hs7 (fun y hy hm => ?_) (by intro y hy; simp at hy; omega) (by decide)).mono ?_
      · obtain rfl : y = w6.heap.size := by simpa using hy
        have := h6.lt _ hm
        omega
      rintro v w7 ⟨rfl, h7, ho7⟩
      have how7 : Only F w w7 := how5.ff ((ho6.t0 hal7).zf ho7)
      have b87 := b86.only (hal7.zf ho7) hF8
      conv => whnf
      rw [eAt2]
      refine ⟨_, Loads.all b87 (by kernel_rfl) (by rw [adC_len ha]; kernel_rfl), ?_⟩
      conv => whnf
      (refine (rword_does (i := 1) ha (by decide)).mono ?_; rintro v w8 ⟨rfl, ho8⟩)
      conv => whnf
      have h8 := h7.only ho8 (by simp)
      have hs9 := Sl.new w8 3 1 [.int .i64 ((head + 2 : Nat) : Int)] 1 rfl
      have hal9 := (Only.refl [] w8).alloc (.cells ⟨[Value.int .i64 ((head + 2 : Nat) : Int)]⟩ 3)
      refine (rover_does (k := head + 8 + 16 + 2) (zs := [((head + 2 : Nat) : Int)]) (h8.only hal9 (by simp)) (by omega) b2.1 b2.2 (by omega) hs9 (fun y hy hm => ?_) (by intro y hy; simp at hy; omega) (by decide)).mono ?_
      · obtain rfl : y = w8.heap.size := by simpa using hy
        have := h8.lt _ hm
        omega
      rintro v w9 ⟨rfl, h9, ho9⟩
      have how9 : Only F w w9 := how7.ff ((ho8.t0 hal9).zf ho9)
      conv => whnf
      have hs10 := Sl.new w9 3 1 [.int .i64 ((head + 2 : Nat) : Int)] 1 rfl
      have hal10 := (Only.refl [] w9).alloc (.cells ⟨[Value.int .i64 ((head + 2 : Nat) : Int)]⟩ 3)
      refine (rover_does (k := u + 2) (zs := [((head + 2 : Nat) : Int)]) (h9.only hal10 (by simp)) (by omega) hp.1 hp.2 (by omega) hs10 (fun y hy hm => ?_) (by intro y hy; simp at hy; omega) (by decide)).mono ?_
      · obtain rfl : y = w9.heap.size := by simpa using hy
        have := h9.lt _ hm
        omega
      rintro v w10 ⟨rfl, h10, ho10⟩
      have how10 : Only F w w10 := how9.ff (hal10.zf ho10)
      conv => whnf
      have hs11 := Sl.new w10 3 1 [.int .i64 ((head + 2 : Nat) : Int)] 1 rfl
      have hal11 := (Only.refl [] w10).alloc (.cells ⟨[Value.int .i64 ((head + 2 : Nat) : Int)]⟩ 3)
      refine (rover_does (k := u + 6) (zs := [((head + 2 : Nat) : Int)]) (h10.only hal11 (by simp)) (by omega) hXb.1 hXb.2 (by omega) hs11 (fun y hy hm => ?_) (by intro y hy; simp at hy; omega) (by decide)).mono ?_
      · obtain rfl : y = w10.heap.size := by simpa using hy
        have := h10.lt _ hm
        omega
      rintro v w11 ⟨rfl, h11, ho11⟩
      conv => whnf
      exact ⟨rfl, h11, how10.ff (hal11.zf ho11)⟩
end Go.Proofs.YtofomopdaponbaaGreatDoor
