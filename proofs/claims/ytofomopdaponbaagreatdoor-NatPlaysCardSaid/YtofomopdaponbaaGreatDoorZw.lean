/-
  The document's answer on packets (mosaicref05): Fields, Right, Head.
-/
import Derived.Test.YtofomopdaponbaaGreatDoorZv
import Derived.Test.YtofomopdaponbaaGreatDoorYNpl
namespace Go.Proofs.YtofomopdaponbaaGreatDoor
open Go.RowKit
set_option linter.unusedVariables false
set_option linter.unusedSimpArgs false

/-- A packet is right but perhaps for its options. -/
def fieldsB (p : Pk) : Bool :=
  decide (p.v = 4) && decide (p.flow = 0) && !p.frag && decide (p.id ≤ 65535) && fourA p.src && fourA p.dst && withinI p.tos 255 && withinI p.proto 255 && withinI p.ttl 255 && placedP p && decide (20 + p.opts.length + p.data.length ≤ 65535)
theorem right_fields (p : Pk) : rightP p = (fieldsB p && optsOk p.opts) := by
  unfold rightP fieldsB
  cases optsOk p.opts <;> simp
theorem ris4_four (a : Ad) : is4A a = fourA a := by
  unfold is4A fourA validA bitsA
  by_cases h : a.1 = 4
  · rw [if_pos h, decide_eq_true h]
    cases (a.2.drop 4).all (fun c => c == 0) <;> rfl
  · rw [decide_eq_false h]
    rfl
set_option maxHeartbeats 4000000 in
set_option maxRecDepth 100000 in
theorem rfields_does {w : World} {p : Pk} {O D : At} {B : Nat} (hp : Pks w p O D B) : Does Tryz.prog 182 [.agg ⟨pkC p O D⟩] w (fun v w' => v = .bool (fieldsB p) ∧ Only [] w w') := by
  have h := hp.ok
  have hdl := hp.dl
  have hol := hp.ol
  have hA := Only.alloc (Only.refl [] w) (.cells ⟨pkC p O D⟩ 56)
  have b0 := Blk.new w 56 ⟨pkC p O D⟩
  have o0 := hA
  refine Does.enter (fn := Tryz.f182) (by kernel_rfl) rfl (by kernel_rfl) (by kernel_rfl) ?_
  refine vc.abs fun N0 hN => ?_
  conv => whnf
  refine hN _ _ ?_
  refine vc.abs2 rfl fun N1 hN1 => ?_
  conv => whnf
  (refine ⟨_, Loads.one (by kernel_rfl) (b0.pkV), ?_⟩; conv => whnf)
  refine VIf.ne (fun f1 => ?_) (fun f1 => ?_)
  · conv => whnf
    refine hN1 _ _ ?_
    conv => whnf
    exact ⟨by simp [fieldsB, f1], o0⟩
  conv => whnf
  (refine ⟨_, Loads.one (by kernel_rfl) (b0.pkTos), ?_⟩; conv => whnf)
  refine VIf.dec (fun f2 => ?_) (fun f2 => ?_)
  · have f2n : withinI p.tos 255 = false := by simp [withinI]; omega
    conv => whnf
    refine hN1 _ _ ?_
    conv => whnf
    exact ⟨by simp [fieldsB, f2n], o0⟩
  conv => whnf
  (refine ⟨_, Loads.one (by kernel_rfl) (b0.pkTos), ?_⟩; conv => whnf)
  refine VIf.dec (fun f3 => ?_) (fun f3 => ?_)
  · have f3n : withinI p.tos 255 = false := by simp [withinI]; omega
    conv => whnf
    refine hN1 _ _ ?_
    conv => whnf
    exact ⟨by simp [fieldsB, f3n], o0⟩
  conv => whnf
  (refine ⟨_, Loads.one (by kernel_rfl) (b0.pkFlow), ?_⟩; conv => whnf)
  refine VIf.ne (fun f4 => ?_) (fun f4 => ?_)
  · conv => whnf
    refine hN1 _ _ ?_
    conv => whnf
    exact ⟨by simp [fieldsB, f4], o0⟩
  conv => whnf
  refine ⟨_, b0.pkSrc h, ?_⟩
  conv => whnf
  (refine (raddr4_does h.src).mono ?_; rintro v w1 ⟨rfl, q1⟩)
  rw [ris4_four]
  have o1 := o0.t0 q1
  have b1 := b0.only q1 (by simp)
  conv => whnf
  refine VIf.not (VIf.of (b := fourA p.src) (fun f5 => ?_) (fun f5 => ?_))
  rotate_left
  · conv => whnf
    refine hN1 _ _ ?_
    conv => whnf
    exact ⟨by simp [fieldsB, f5], o1⟩
  conv => whnf
  refine ⟨_, b1.pkDst h, ?_⟩
  conv => whnf
  (refine (raddr4_does h.dst).mono ?_; rintro v w2 ⟨rfl, q2⟩)
  rw [ris4_four]
  have o2 := o1.t0 q2
  have b2 := b1.only q2 (by simp)
  conv => whnf
  refine VIf.not (VIf.of (b := fourA p.dst) (fun f6 => ?_) (fun f6 => ?_))
  rotate_left
  · conv => whnf
    refine hN1 _ _ ?_
    conv => whnf
    exact ⟨by simp [fieldsB, f6], o2⟩
  conv => whnf
  (refine ⟨_, Loads.one (by kernel_rfl) (b2.pkProto h), ?_⟩; conv => whnf)
  refine VIf.dec (fun f7 => ?_) (fun f7 => ?_)
  · have f7n : withinI p.proto 255 = false := by simp [withinI]; omega
    conv => whnf
    refine hN1 _ _ ?_
    conv => whnf
    exact ⟨by simp [fieldsB, f7n], o2⟩
  conv => whnf
  (refine ⟨_, Loads.one (by kernel_rfl) (b2.pkProto h), ?_⟩; conv => whnf)
  refine VIf.dec (fun f8 => ?_) (fun f8 => ?_)
  · have f8n : withinI p.proto 255 = false := by simp [withinI]; omega
    conv => whnf
    refine hN1 _ _ ?_
    conv => whnf
    exact ⟨by simp [fieldsB, f8n], o2⟩
  conv => whnf
  (refine ⟨_, Loads.one (by kernel_rfl) (b2.pkTtl h), ?_⟩; conv => whnf)
  refine VIf.dec (fun f9 => ?_) (fun f9 => ?_)
  · have f9n : withinI p.ttl 255 = false := by simp [withinI]; omega
    conv => whnf
    refine hN1 _ _ ?_
    conv => whnf
    exact ⟨by simp [fieldsB, f9n], o2⟩
  conv => whnf
  (refine ⟨_, Loads.one (by kernel_rfl) (b2.pkTtl h), ?_⟩; conv => whnf)
  refine VIf.dec (fun f10 => ?_) (fun f10 => ?_)
  · have f10n : withinI p.ttl 255 = false := by simp [withinI]; omega
    conv => whnf
    refine hN1 _ _ ?_
    conv => whnf
    exact ⟨by simp [fieldsB, f10n], o2⟩
  conv => whnf
  (refine ⟨_, Loads.one (by kernel_rfl) (b2.pkId h), ?_⟩; conv => whnf)
  refine VIf.dec (fun f11 => ?_) (fun f11 => ?_)
  · have f11n : decide (p.id ≤ 65535) = false := by simp; omega
    conv => whnf
    refine hN1 _ _ ?_
    conv => whnf
    exact ⟨by simp [fieldsB, f11n], o2⟩
  conv => whnf
  (refine ⟨_, Loads.one (by kernel_rfl) (b2.pkFrag h), ?_⟩; conv => whnf)
  refine hN1 _ _ ?_
  conv => whnf
  refine VIf.of (b := p.frag) (fun f12 => ?_) (fun f12 => ?_)
  · conv => whnf
    exact ⟨by simp [fieldsB, f12], o2⟩
  have g1 : p.v = 4 := f1
  have g2 : withinI p.tos 255 = true := by simp [withinI]; omega
  have g4 : p.flow = 0 := f4
  have g7 : withinI p.proto 255 = true := by simp [withinI]; omega
  have g9 : withinI p.ttl 255 = true := by simp [withinI]; omega
  have g11 : p.id ≤ 65535 := by omega
  have hF : fieldsB p = (placedP p && decide (20 + p.opts.length + p.data.length ≤ 65535)) := by
    simp [fieldsB, g1, g2, g4, f5, f6, g7, g9, g11, f12]
  rw [hF]
  clear hN1 N1
  refine vc.S ?_
  refine vc.abs fun N2 hN2 => ?_
  conv => whnf
  (refine ⟨_, Loads.one (by kernel_rfl) (b2.pkData h), ?_⟩; conv => whnf)
  refine hN2 _ _ ?_
  refine vc.abs2 rfl fun N3 hN3 => ?_
  conv => whnf
  (refine ⟨_, Loads.one (by kernel_rfl) (b2.pkOff h), ?_⟩; conv => whnf)
  refine VIf.dec (fun k1 => ?_) (fun k1 => ?_)
  · have kn : placedP p = false := by simp [placedP, withinI, show ¬ 0 ≤ p.off by omega]
    conv => whnf
    refine hN3 _ _ ?_
    conv => whnf
    exact ⟨by simp [kn], o2⟩
  conv => whnf
  (refine ⟨_, Loads.one (by kernel_rfl) (b2.pkOff h), ?_⟩; conv => whnf)
  refine VIf.dec (fun k2 => ?_) (fun k2 => ?_)
  · have kn : placedP p = false := by simp [placedP, withinI, show ¬ p.off ≤ 65528 by omega]
    conv => whnf
    refine hN3 _ _ ?_
    conv => whnf
    exact ⟨by simp [kn], o2⟩
  have e2 : p.off.tmod 8 = p.off % 8 := Int.tmod_eq_emod_of_nonneg (by omega)
  have e3 : IntKind.i64.wrap (65535 - p.off) = 65535 - p.off := by rw [wi64]; omega
  have e4 : (p.data.length : Int).tmod 8 = ((p.data.length % 8 : Nat) : Int) := by rw [Int.tmod_eq_emod_of_nonneg (by omega)]; omega
  conv => whnf
  (refine ⟨_, Loads.one (by kernel_rfl) (b2.pkOff h), ?_⟩; conv => whnf)
  rw [e2]
  refine VIf.ne (fun k3 => ?_) (fun k3 => ?_)
  · have kn : placedP p = false := by simp [placedP, k3]
    conv => whnf
    refine hN3 _ _ ?_
    conv => whnf
    exact ⟨by simp [kn], o2⟩
  conv => whnf
  (refine ⟨_, Loads.one (by kernel_rfl) (b2.pkOff h), ?_⟩; conv => whnf)
  rw [e3]
  refine VIf.dec (fun k4 => ?_) (fun k4 => ?_)
  · have kn : placedP p = false := by simp [placedP, show ¬ p.off + (p.data.length : Int) ≤ 65535 by omega]
    conv => whnf
    refine hN3 _ _ ?_
    conv => whnf
    exact ⟨by simp [kn], o2⟩
  have k4 : p.off + (p.data.length : Int) ≤ 65535 := by omega
  have fin : ∀ {b : Bool}, placedP p = b → (placedP p && decide (20 + p.opts.length + p.data.length ≤ 65535)) = (b && decide (20 + p.opts.length + p.data.length ≤ 65535)) := fun e => by rw [e]
  have es : IntKind.i64.wrap (IntKind.i64.wrap (20 + (p.opts.length : Int)) + (p.data.length : Int)) = 20 + (p.opts.length : Int) + (p.data.length : Int) := right_e hol hdl
  have more0 : p.more = true → p.data.length = 0 → placedP p = false := fun h1 h2 => by simp [placedP, h1, h2]
  have more8 : p.more = true → ¬ p.data.length % 8 = 0 → placedP p = false := fun h1 h2 => by simp [placedP, h1, h2]
  have off0 : p.off > 0 → p.data.length = 0 → placedP p = false := fun h1 h2 => by simp [placedP, h2, show ¬ p.off = 0 by omega]
  have yes : (p.more = true → ¬ p.data.length = 0 ∧ p.data.length % 8 = 0) → (p.off > 0 → ¬ p.data.length = 0) → placedP p = true := fun h1 h2 => by
    have q1 : withinI p.off 65528 = true := by simp [withinI]; omega
    have q2 : (decide (p.off = 0) || decide (0 < p.data.length)) = true := by
      by_cases h0 : p.off = 0
      · simp [h0]
      · have := h2 (by omega)
        simp
        omega
    have q3 : (p.more && (decide (p.data.length = 0) || decide (p.data.length % 8 ≠ 0))) = false := by
      cases hm : p.more with
      | false => rfl
      | true =>
        have := h1 hm
        simp [this.1, this.2]
    unfold placedP
    rw [q1, q2, q3, decide_eq_true k3, decide_eq_true k4]
    rfl
  have last : ∀ {v : Value} {w' : World}, placedP p = true → v = .bool (decide (20 + (p.opts.length : Int) + (p.data.length : Int) ≤ 65535)) → Only [] w w' → v = .bool (placedP p && decide (20 + p.opts.length + p.data.length ≤ 65535)) ∧ Only [] w w' := fun h1 h2 h3 => ⟨by rw [h2, h1, Bool.true_and]; exact congrArg Value.bool (decide_eq_decide.2 (by omega)), h3⟩
  conv => whnf
  (refine ⟨_, Loads.one (by kernel_rfl) (b2.pkMore h), ?_⟩; conv => whnf)
  refine VIf.of (b := p.more) (fun hm => ?_) (fun hm => ?_)
  · conv => whnf
    refine VIf.eq (fun k5 => ?_) (fun k5 => ?_)
    · have k5 : p.data.length = 0 := by omega
      have kn := more0 hm k5
      conv => whnf
      refine hN3 _ _ ?_
      conv => whnf
      exact ⟨by simp [kn], o2⟩
    have k5 : ¬ p.data.length = 0 := by omega
    conv => whnf
    rw [e4]
    refine VIf.ne (fun k6 => ?_) (fun k6 => ?_)
    · have kn := more8 hm (by omega)
      conv => whnf
      refine hN3 _ _ ?_
      conv => whnf
      exact ⟨by simp [kn], o2⟩
    have k6 : p.data.length % 8 = 0 := by omega
    have kn := yes (fun _ => ⟨k5, k6⟩) (fun _ => k5)
    conv => whnf
    (refine ⟨_, Loads.one (by kernel_rfl) (b2.pkOff h), ?_⟩; conv => whnf)
    refine VIf.dec (fun k7 => ?_) (fun k7 => ?_)
    · conv => whnf
      refine hN3 _ _ ?_
      conv => whnf
      refine VIf.eq (fun k8 => ?_) (fun k8 => ?_)
      · exact absurd k8 (by omega)
      conv => whnf
      (refine ⟨_, Loads.one (by kernel_rfl) (b2.pkOpts h), ?_⟩; conv => whnf)
      rw [es]
      exact last kn rfl o2
    · conv => whnf
      refine hN3 _ _ ?_
      conv => whnf
      (refine ⟨_, Loads.one (by kernel_rfl) (b2.pkOpts h), ?_⟩; conv => whnf)
      rw [es]
      exact last kn rfl o2
  · conv => whnf
    (refine ⟨_, Loads.one (by kernel_rfl) (b2.pkOff h), ?_⟩; conv => whnf)
    refine VIf.dec (fun k7 => ?_) (fun k7 => ?_)
    · conv => whnf
      refine hN3 _ _ ?_
      conv => whnf
      refine VIf.eq (fun k8 => ?_) (fun k8 => ?_)
      · have kn := off0 k7 (by omega)
        conv => whnf
        exact ⟨by simp [kn], o2⟩
      have kn := yes (fun e => by rw [hm] at e; cases e) (fun _ => by omega)
      conv => whnf
      (refine ⟨_, Loads.one (by kernel_rfl) (b2.pkOpts h), ?_⟩; conv => whnf)
      rw [es]
      exact last kn rfl o2
    · have kn := yes (fun e => by rw [hm] at e; cases e) (fun e => absurd e k7)
      conv => whnf
      refine hN3 _ _ ?_
      conv => whnf
      (refine ⟨_, Loads.one (by kernel_rfl) (b2.pkOpts h), ?_⟩; conv => whnf)
      rw [es]
      exact last kn rfl o2
set_option maxRecDepth 100000 in
theorem rright_does {w : World} {p : Pk} {O D : At} {B : Nat} (hp : Pks w p O D B) : Does Tryz.prog 184 [.agg ⟨pkC p O D⟩] w (fun v w' => v = .bool (rightP p) ∧ Only [] w w') := by
  have h := hp.ok
  have hA := Only.alloc (Only.refl [] w) (.cells ⟨pkC p O D⟩ 56)
  have b0 := Blk.new w 56 ⟨pkC p O D⟩
  rw [right_fields]
  obtain ⟨GO, hO, -⟩ := hp.opts
  refine Does.enter (fn := Tryz.f184) (by kernel_rfl) rfl (by kernel_rfl) (by kernel_rfl) ?_
  conv => whnf
  refine ⟨_, b0.pkAll h, ?_⟩
  conv => whnf
  (refine (rfields_does (hp.o hA)).mono ?_; rintro v w1 ⟨rfl, q1⟩)
  have o1 := hA.t0 q1
  have b1 := b0.only q1 (by simp)
  conv => whnf
  refine VIf.of (b := fieldsB p) (fun f1 => ?_) (fun f1 => ?_)
  · conv => whnf
    (refine ⟨_, Loads.one (by kernel_rfl) (b1.pkOpts h), ?_⟩; conv => whnf)
    (refine (roptions_does (hO.o o1) hp.ol).mono ?_; rintro v w2 ⟨rfl, rfl⟩)
    conv => whnf
    exact ⟨by rw [f1, Bool.true_and], o1⟩
  · conv => whnf
    exact ⟨by rw [f1, Bool.false_and], o1⟩
set_option maxRecDepth 100000 in
theorem rhead_does {w : World} {p : Pk} {O D : At} {B : Nat} (hp : Pks w p O D B) : Does Tryz.prog 112 [.agg ⟨pkC p O D⟩] w (fun v w' => v = .int .i64 (headP p) ∧ Only [] w w') := by
  have h := hp.ok
  have hol := hp.ol
  have hA := Only.alloc (Only.refl [] w) (.cells ⟨pkC p O D⟩ 56)
  have b0 := Blk.new w 56 ⟨pkC p O D⟩
  refine Does.enter (fn := Tryz.f112) (by kernel_rfl) rfl (by kernel_rfl) (by kernel_rfl) ?_
  conv => whnf
  refine ⟨_, b0.pkAll h, ?_⟩
  conv => whnf
  (refine (rright_does (hp.o hA)).mono ?_; rintro v w1 ⟨rfl, q1⟩)
  have o1 := hA.t0 q1
  have b1 := b0.only q1 (by simp)
  conv => whnf
  refine VIf.not (VIf.of (b := rightP p) (fun f1 => ?_) (fun f1 => ?_))
  · conv => whnf
    (refine ⟨_, Loads.one (by kernel_rfl) (b1.pkOpts h), ?_⟩; conv => whnf)
    exact ⟨congrArg (Value.int .i64) (by rw [headP, if_pos f1, wi64]; omega), o1⟩
  · conv => whnf
    exact ⟨congrArg (Value.int .i64) (by rw [headP, if_neg (by simp [f1])]), o1⟩
end Go.Proofs.YtofomopdaponbaaGreatDoor
/-
  The document's answer on packets (mosaicref05): Parse answers what the program's does.
-/
namespace Go.Proofs.YtofomopdaponbaaGreatDoor
open Go.RowKit
set_option linter.unusedVariables false
set_option linter.unusedSimpArgs false

theorem reserved_iff (l : List UInt8) : decide (128 ≤ (l.getD 6 0).toNat) = (andI .u16 (flagF l) 32768 != 0) := by
  have h6 := u8_le (l.getD 6 0)
  have h7 := u8_le (l.getD 7 0)
  have e : flagF l = ((l.getD 6 0).toNat : Int) * 256 + ((l.getD 7 0).toNat : Int) := rfl
  have hb := andI_bit .u16 (flagF l) 15 (by rw [e]; omega) (show flagF l ≤ ((maxN .u16 : Nat) : Int) by rw [e]; show _ ≤ (65535 : Int); omega) (by decide)
  have hb : andI .u16 (flagF l) 32768 = flagF l / 32768 % 2 * 32768 := hb
  rw [hb, e, Bool.eq_iff_iff]
  simp only [decide_eq_true_eq, bne_iff_ne, ne_eq]
  omega
theorem fields_read {l : List UInt8} {hd : Nat} (h20 : 20 ≤ hd) (hl : hd ≤ l.length) (hn : l.length ≤ 65535) : fieldsB (readP l hd) = placedP (readP l hd) := by
  have ho : (readP l hd).opts = (l.drop 20).take (hd - 20) := rfl
  have hd' : (readP l hd).data = l.drop hd := rfl
  have hol : (readP l hd).opts.length = hd - 20 := by rw [ho, List.length_take, List.length_drop]; omega
  have hdl : (readP l hd).data.length = l.length - hd := by rw [hd', List.length_drop]
  have b1 := u8_le (l.getD 1 0)
  have b8 := u8_le (l.getD 8 0)
  have b9 := u8_le (l.getD 9 0)
  have four : ∀ k, k + 4 ≤ l.length → fourA (4, (l.drop k).take 4 ++ z12) = true := fun k hk => by
    have h4 : ((l.drop k).take 4).length = 4 := by rw [List.length_take, List.length_drop]; omega
    have hdr : ((l.drop k).take 4 ++ z12).drop 4 = z12 := by
      rw [List.drop_append, h4, List.drop_of_length_le (by omega)]
      rfl
    unfold fourA validA bitsA
    simp only [hdr]
    rfl
  have hwi : ∀ n : Nat, (n : Int) ≤ 255 → withinI (n : Int) 255 = true := fun n hn => by
    unfold withinI
    rw [decide_eq_true (by omega), decide_eq_true hn]
    rfl
  have i1 : decide ((readP l hd).v = 4) = true := rfl
  have i2 : decide ((readP l hd).flow = 0) = true := rfl
  have i3 : (!(readP l hd).frag) = true := rfl
  have i4 : decide ((readP l hd).id ≤ 65535) = true := decide_eq_true (wordL_bd l 4).2
  have i5 : fourA (readP l hd).src = true := four 12 (by omega)
  have i6 : fourA (readP l hd).dst = true := four 16 (by omega)
  have i7 : withinI (readP l hd).tos 255 = true := hwi _ b1
  have i8 : withinI (readP l hd).proto 255 = true := hwi _ b9
  have i9 : withinI (readP l hd).ttl 255 = true := hwi _ b8
  have i10 : decide (20 + (readP l hd).opts.length + (readP l hd).data.length ≤ 65535) = true := decide_eq_true (by omega)
  unfold fieldsB
  rw [i1, i2, i3, i4, i5, i6, i7, i8, i9, i10]
  simp
set_option maxHeartbeats 4000000 in
set_option maxRecDepth 100000 in
theorem rparse_does {w : World} {G : List Nat} {A : Option Addr} {n c : Nat} {l : List UInt8} (h : Bs w G A n l) (hn : n ≤ 140737488355328) (hc : n ≤ c) :
    Does Tryz.prog 110 [.slice A n c] w (fun v w' => ∃ O D, v = .tuple ⟨[.agg ⟨pkC (parseP l) O D⟩, .int .i64 (parseE l)]⟩ ∧ Pks w' (parseP l) O D w.heap.size ∧ Only [] w w') := by
  have hl := h.len
  have hA := Only.alloc (Only.refl [] w) (.cells ⟨pkC zeroP (none, 0) (none, 0)⟩ 56)
  have b2 := Blk.new w 56 ⟨pkC zeroP (none, 0) (none, 0)⟩
  have hc0 := u8_le (l.getD 0 0)
  have eH : headL l = (l.getD 0 0).toNat % 16 * 4 := rfl
  refine Does.enter (fn := Tryz.f110) (by kernel_rfl) rfl (by kernel_rfl) (by kernel_rfl) ?_
  conv => whnf
  (refine (rheadOf_does (h.o hA) hn).mono ?_; rintro v w1 ⟨rfl, ho1⟩)
  have hw1 := hA.t0 ho1
  have b21 := b2.only ho1 (by simp)
  conv => whnf
  refine VIf.ne (fun h1 => ?_) (fun h1 => ?_)
  · have hE : parseE l = (rheadE l).2 := by
      unfold parseE rheadE
      unfold rheadE at h1
      split
      · rfl
      split at h1
      · exact absurd ‹l.length < 20› ‹¬ l.length < 20›
      split at h1
      · rename_i g
        rw [if_pos g]
        split
        · rfl
        · rw [if_pos (by rw [eH]; omega)]
      split at h1
      · rename_i g1 _ g2 g3
        rw [if_neg (by omega), if_neg (by rw [eH]; omega), if_pos (by rw [eH]; omega), if_neg g2, if_pos g3]
      · exact absurd rfl h1
    conv => whnf
    refine vStore.all (cs := pkC zeroP (none, 0) (none, 0)) b21 (by kernel_rfl) rfl (one_pkC _ _ _) (fun wz bz hoZ _ => ?_)
    conv => whnf
    refine ⟨_, Loads.all bz (by kernel_rfl) (by kernel_rfl), ?_⟩
    conv => whnf
    rw [← hE]
    exact parse_fail rfl (by rw [hE]; exact h1) (hw1.nw hoZ (Nat.le_refl _))
  have hh : ¬ l.length < 20 ∧ ¬ (l.getD 0 0).toNat / 16 ≠ 4 ∧ ¬ headL l < 20 ∧ ¬ l.length < headL l ∧ (rheadE l).1 = (headL l : Int) := by
    unfold rheadE at h1 ⊢
    split at h1
    · exact absurd h1 (by decide)
    split at h1
    · exact absurd h1 (by decide)
    split at h1
    · exact absurd h1 (by decide)
    rename_i g1 g2 g3
    rw [if_neg g1, if_neg g2, if_neg g3]
    exact ⟨g1, by omega, by rw [eH]; omega, by rw [eH]; omega, rfl⟩
  obtain ⟨g1, g2, g3, g4, hhd⟩ := hh
  rw [hhd]
  conv => whnf
  (refine (rget5_does (k := 2) (h.o hw1) (by omega) hn).mono ?_; rintro v w2 ⟨rfl, ho2⟩)
  have b22 := b21.only ho2 (by simp)
  have hw2 := hw1.t0 ho2
  conv => whnf
  refine VIf.ne (fun h5 => ?_) (fun h5 => ?_)
  · have h5 : wordL l 2 ≠ (l.length : Int) := by rw [hl]; exact h5
    have hE : parseE l = 51 := by
      unfold parseE
      rw [if_neg g1, if_neg g2, if_neg g3, if_neg g4, if_pos h5]
    conv => whnf
    refine vStore.all (cs := pkC zeroP (none, 0) (none, 0)) b22 (by kernel_rfl) rfl (one_pkC _ _ _) (fun wz bz hoZ _ => ?_)
    conv => whnf
    refine ⟨_, Loads.all bz (by kernel_rfl) (by kernel_rfl), ?_⟩
    conv => whnf
    exact parse_fail hE (by decide) (hw2.nw hoZ (Nat.le_refl _))
  have g5 : ¬ wordL l 2 ≠ (l.length : Int) := by rw [hl]; exact fun e => e h5
  have hw65 := wordL_bd l 2
  have hn65 : n ≤ 65535 := by omega
  have hcut := (h.o hw2).cut (lo := 0) (hi := headL l) (m := c) (by omega) (by omega) (by omega) rfl
  rw [List.drop_zero, Nat.sub_zero] at hcut
  have h60 : headL l ≤ 60 := by unfold headL; omega
  have h4 : headL l % 2 = 0 := by unfold headL; omega
  conv => whnf
  refine ⟨0, headL l, c, rfl, rfl, rfl, by omega, by omega, by omega, _, headL l, c - 0, rfl, rfl, rfl, ?_⟩
  conv => whnf
  (refine (rsealed_does hcut (by omega) h4 (by omega)).mono ?_; rintro v w3 ⟨rfl, ho3⟩)
  have b23 := b22.only ho3 (by simp)
  have hw3 := hw2.t0 ho3
  conv => whnf
  refine VIf.not (VIf.of (b := checkedL (l.take (headL l))) (fun h6 => ?_) (fun h6 => ?_))
  rotate_left
  · have h6 := h6
    have hE : parseE l = 52 := by
      unfold parseE
      rw [if_neg g1, if_neg g2, if_neg g3, if_neg g4, if_neg g5, if_pos h6]
    conv => whnf
    refine vStore.all (cs := pkC zeroP (none, 0) (none, 0)) b23 (by kernel_rfl) rfl (one_pkC _ _ _) (fun wz bz hoZ _ => ?_)
    conv => whnf
    refine ⟨_, Loads.all bz (by kernel_rfl) (by kernel_rfl), ?_⟩
    conv => whnf
    exact parse_fail hE (by decide) (hw3.nw hoZ (Nat.le_refl _))
  have g6 : ¬ checkedL (l.take (headL l)) = false := by rw [h6]; decide
  refine vc.S ?_
  refine vc.abs fun N8 hN8 => ?_
  conv => whnf
  refine (rread_does (head := headL l) (h.o hw3) (by omega) (by omega) hn65 hc).mono ?_
  have hlt3 := b23.lt
  rintro v w4 ⟨O, D, rfl, hp, ho4⟩
  have b24 := b23.only ho4 (by simp)
  have hw4 := hw3.t0 ho4
  conv => whnf
  refine vStore.fresh (cs := pkC (readP l (headL l)) O D) (by rw [pk_len hp.ok]; kernel_rfl) (by rw [pk_len hp.ok]; rfl) (one_pkC _ _ _) (fun w5 b5 ho5 hz5 => ?_)
  have b25 := b24.only ho5 (by simp)
  have hw5 := hw4.t0 ho5
  have hp := hp.o ho5
  have hfr := fields_read (l := l) (hd := headL l) (by omega) (by omega) (by omega)
  have hres := reserved_iff l
  conv => whnf
  refine hN8 _ _ ?_
  refine vc.abs2 rfl fun N1 hN1 => ?_
  conv => whnf
  (refine (rreserved_does (h.o hw5) (by omega)).mono ?_; rintro v w6 ⟨rfl, ho6⟩)
  have b56 := b5.only ho6 (by simp)
  have b26 := b25.only ho6 (by simp)
  have hw6 := hw5.t0 ho6
  have hp := hp.o ho6
  rw [hres]
  refine VIf.ne (fun h7 => ?_) (fun h7 => ?_)
  · have h7 := h7
    have hE : parseE l = 50 := by
      unfold parseE
      rw [if_neg g1, if_neg g2, if_neg g3, if_neg g4, if_neg g5, if_neg g6, if_pos h7]
    conv => whnf
    refine hN1 _ _ ?_
    conv => whnf
    refine vStore.all (cs := pkC zeroP (none, 0) (none, 0)) b26 (by kernel_rfl) rfl (one_pkC _ _ _) (fun wz bz hoZ _ => ?_)
    conv => whnf
    refine ⟨_, Loads.all bz (by kernel_rfl) (by kernel_rfl), ?_⟩
    conv => whnf
    exact parse_fail hE (by decide) (hw6.nw hoZ (Nat.le_refl _))
  have g7 : ¬ andI .u16 (flagF l) 32768 ≠ 0 := fun e => e h7
  conv => whnf
  refine ⟨_, b56.pkAll hp.ok, ?_⟩
  conv => whnf
  (refine (rfields_does hp).mono ?_; rintro v w7 ⟨rfl, ho7⟩)
  have b57 := b56.only ho7 (by simp)
  have b27 := b26.only ho7 (by simp)
  have hw7 := hw6.t0 ho7
  have hp := hp.o ho7
  rw [hfr]
  conv => whnf
  refine hN1 _ _ ?_
  conv => whnf
  refine VIf.not (VIf.of (b := placedP (readP l (headL l))) (fun h8 => ?_) (fun h8 => ?_))
  rotate_left
  · have h8 := h8
    have hE : parseE l = 50 := by
      unfold parseE
      rw [if_neg g1, if_neg g2, if_neg g3, if_neg g4, if_neg g5, if_neg g6, if_neg g7, if_pos h8]
    conv => whnf
    refine vStore.all (cs := pkC zeroP (none, 0) (none, 0)) b27 (by kernel_rfl) rfl (one_pkC _ _ _) (fun wz bz hoZ _ => ?_)
    conv => whnf
    refine ⟨_, Loads.all bz (by kernel_rfl) (by kernel_rfl), ?_⟩
    conv => whnf
    exact parse_fail hE (by decide) (hw7.nw hoZ (Nat.le_refl _))
  have g8 : ¬ placedP (readP l (headL l)) = false := by rw [h8]; decide
  obtain ⟨GO, hGO, -⟩ := hp.opts
  conv => whnf
  (refine ⟨_, Loads.one (by kernel_rfl) (b57.pkOpts hp.ok), ?_⟩; conv => whnf)
  (refine (roptions_does hGO hp.ol).mono ?_; rintro v w8 ⟨rfl, rfl⟩)
  conv => whnf
  refine VIf.not (VIf.of (b := optsOk (readP l (headL l)).opts) (fun h9 => ?_) (fun h9 => ?_))
  rotate_left
  · have h9 := h9
    have hE : parseE l = 40 := by
      unfold parseE
      rw [if_neg g1, if_neg g2, if_neg g3, if_neg g4, if_neg g5, if_neg g6, if_neg g7, if_neg g8, if_pos h9]
    conv => whnf
    refine vStore.all (cs := pkC zeroP (none, 0) (none, 0)) b27 (by kernel_rfl) rfl (one_pkC _ _ _) (fun wz bz hoZ _ => ?_)
    conv => whnf
    refine ⟨_, Loads.all bz (by kernel_rfl) (by kernel_rfl), ?_⟩
    conv => whnf
    exact parse_fail hE (by decide) (hw7.nw hoZ (Nat.le_refl _))
  have g9 : ¬ optsOk (readP l (headL l)).opts = false := by rw [h9]; decide
  have hE : parseE l = 0 := by
    unfold parseE
    rw [if_neg g1, if_neg g2, if_neg g3, if_neg g4, if_neg g5, if_neg g6, if_neg g7, if_neg g8, if_neg g9]
  have hP : parseP l = readP l (headL l) := if_pos hE
  conv => whnf
  refine ⟨_, b57.pkAll hp.ok, ?_⟩
  conv => whnf
  refine vStore.all (cs := pkC (readP l (headL l)) O D) b27 (by rw [pk_len hp.ok]; kernel_rfl) (by rw [pk_len hp.ok]; rfl) (one_pkC _ _ _) (fun wz bz hoZ hzz => ?_)
  conv => whnf
  refine ⟨_, bz.pkAll hp.ok, ?_⟩
  conv => whnf
  rw [hE, hP]
  exact ⟨O, D, rfl, (hp.far hoZ hlt3).below (Nat.le_of_lt hlt3), hw7.nw hoZ (Nat.le_refl _)⟩
end Go.Proofs.YtofomopdaponbaaGreatDoor
