/-
  A packet (package api's Packet) as cells; ip4: within, four, placed, Right, Head.
-/
import Derived.Test.YtofomopdaponbaaGreatDoorNop
import Derived.Test.YtofomopdaponbaaGreatDoorNad
namespace Go.Proofs.YtofomopdaponbaaGreatDoor
open Go.RowKit
set_option linter.unusedVariables false
set_option linter.unusedSimpArgs false

structure Pk where
  v : Int
  tos : Int
  flow : Int
  src : Ad
  dst : Ad
  proto : Int
  ttl : Int
  id : Int
  df : Bool
  more : Bool
  frag : Bool
  off : Int
  opts : List UInt8
  data : List UInt8
/-- Where a slice lies: its address, its capacity. -/
abbrev At := Option Addr × Nat
def pkH (p : Pk) : List Value := [.int .i64 p.v, .int .i64 p.tos, .int .i64 p.flow]
def pkT (p : Pk) (O D : At) : List Value := [.int .i64 p.proto, .int .i64 p.ttl, .int .u32 p.id, .bool p.df, .bool p.more, .bool p.frag, .int .i64 p.off, .slice O.1 p.opts.length O.2, .slice D.1 p.data.length D.2]
def pkC (p : Pk) (O D : At) : List Value := pkH p ++ (adC p.src ++ (adC p.dst ++ pkT p O D))
/-- The numbers of a packet are Go's own. -/
structure okPk (p : Pk) : Prop where
  src : okAd p.src
  dst : okAd p.dst
  off : -9223372036854775808 ≤ p.off ∧ p.off ≤ 9223372036854775807
theorem pk_len {p : Pk} {O D : At} (h : okPk p) : (pkC p O D).length = 46 := by simp [pkC, pkH, pkT, adC_len h.src, adC_len h.dst]
theorem pk_tail {p : Pk} {O D : At} (h : okPk p) (j : Nat) : (pkC p O D)[37 + j]? = (pkT p O D)[j]? := by
  have e1 := adC_len h.src
  have e2 := adC_len h.dst
  unfold pkC
  rw [List.getElem?_append_right (by simp [pkH]; omega), List.getElem?_append_right (by simp [pkH, e1]; omega), List.getElem?_append_right (by simp [pkH, e1, e2]; omega)]
  congr 1
  simp [pkH, e1, e2]
  omega
theorem pk_head {p : Pk} {O D : At} (j : Nat) (hj : j < 3) : (pkC p O D)[j]? = (pkH p)[j]? := by
  unfold pkC
  rw [List.getElem?_append_left (by simpa [pkH] using hj)]
section
variable {w : World} {g : Nat} {t : TypeId} {p : Pk} {O D : At}
theorem Blk.pkV (h : Blk w g t ⟨pkC p O D⟩) : w.cell? ⟨g, 0, none⟩ = some (.int .i64 p.v) := h.at ((pk_head 0 (by decide)).trans rfl)
theorem Blk.pkTos (h : Blk w g t ⟨pkC p O D⟩) : w.cell? ⟨g, 1, none⟩ = some (.int .i64 p.tos) := h.at ((pk_head 1 (by decide)).trans rfl)
theorem Blk.pkFlow (h : Blk w g t ⟨pkC p O D⟩) : w.cell? ⟨g, 2, none⟩ = some (.int .i64 p.flow) := h.at ((pk_head 2 (by decide)).trans rfl)
theorem Blk.pkProto (h : Blk w g t ⟨pkC p O D⟩) (ok : okPk p) : w.cell? ⟨g, 37, none⟩ = some (.int .i64 p.proto) := h.at ((pk_tail ok 0).trans rfl)
theorem Blk.pkTtl (h : Blk w g t ⟨pkC p O D⟩) (ok : okPk p) : w.cell? ⟨g, 38, none⟩ = some (.int .i64 p.ttl) := h.at ((pk_tail ok 1).trans rfl)
theorem Blk.pkId (h : Blk w g t ⟨pkC p O D⟩) (ok : okPk p) : w.cell? ⟨g, 39, none⟩ = some (.int .u32 p.id) := h.at ((pk_tail ok 2).trans rfl)
theorem Blk.pkDf (h : Blk w g t ⟨pkC p O D⟩) (ok : okPk p) : w.cell? ⟨g, 40, none⟩ = some (.bool p.df) := h.at ((pk_tail ok 3).trans rfl)
theorem Blk.pkMore (h : Blk w g t ⟨pkC p O D⟩) (ok : okPk p) : w.cell? ⟨g, 41, none⟩ = some (.bool p.more) := h.at ((pk_tail ok 4).trans rfl)
theorem Blk.pkFrag (h : Blk w g t ⟨pkC p O D⟩) (ok : okPk p) : w.cell? ⟨g, 42, none⟩ = some (.bool p.frag) := h.at ((pk_tail ok 5).trans rfl)
theorem Blk.pkOff (h : Blk w g t ⟨pkC p O D⟩) (ok : okPk p) : w.cell? ⟨g, 43, none⟩ = some (.int .i64 p.off) := h.at ((pk_tail ok 6).trans rfl)
theorem Blk.pkOpts (h : Blk w g t ⟨pkC p O D⟩) (ok : okPk p) : w.cell? ⟨g, 44, none⟩ = some (.slice O.1 p.opts.length O.2) := h.at ((pk_tail ok 7).trans rfl)
theorem Blk.pkData (h : Blk w g t ⟨pkC p O D⟩) (ok : okPk p) : w.cell? ⟨g, 45, none⟩ = some (.slice D.1 p.data.length D.2) := h.at ((pk_tail ok 8).trans rfl)
theorem Blk.pkSrc (h : Blk w g t ⟨pkC p O D⟩) (ok : okPk p) : Loads Tryz.prog 24 ⟨g, 3, none⟩ w (.agg ⟨adC p.src⟩) := Loads.seg (ps := pkH p) h rfl (by kernel_rfl) (by rw [adC_len ok.src]; kernel_rfl)
theorem Blk.pkDst (h : Blk w g t ⟨pkC p O D⟩) (ok : okPk p) : Loads Tryz.prog 24 ⟨g, 20, none⟩ w (.agg ⟨adC p.dst⟩) := by
  have h2 : Blk w g t ⟨(pkH p ++ adC p.src) ++ (adC p.dst ++ pkT p O D)⟩ := by
    rw [List.append_assoc]
    exact h
  exact Loads.seg h2 (by simp [pkH, adC_len ok.src]) (by kernel_rfl) (by rw [adC_len ok.dst]; kernel_rfl)
theorem Blk.pkAll (h : Blk w g t ⟨pkC p O D⟩) (ok : okPk p) : Loads Tryz.prog 56 ⟨g, 0, none⟩ w (.agg ⟨pkC p O D⟩) := Loads.all h (by kernel_rfl) (by rw [pk_len ok]; kernel_rfl)
end

def withinI (n most : Int) : Bool := decide (n ≥ 0) && decide (n ≤ most)
set_option maxRecDepth 100000 in
theorem withinI_does {w : World} {n m : Int} : Does Tryz.prog 149 [.int .i64 n, .int .i64 m] w (fun v w' => v = .bool (withinI n m) ∧ w = w') := by
  refine Does.enter (fn := Tryz.f149) (by kernel_rfl) rfl (by kernel_rfl) (by kernel_rfl) ?_
  conv => whnf
  refine VIf.dec (fun h => ?_) (fun h => ?_)
  · conv => whnf
    exact ⟨by simp [withinI, h], rfl⟩
  · conv => whnf
    exact ⟨by simp [withinI, h], rfl⟩
def fourA (a : Ad) : Bool := decide (a.1 = 4) && validA a
set_option maxRecDepth 100000 in
theorem four_does {w : World} {a : Ad} (h : okAd a) : Does Tryz.prog 194 [.agg ⟨adC a⟩] w (fun v w' => v = .bool (fourA a) ∧ Only [] w w') := by
  have hA := Only.alloc (Only.refl [] w) (.cells ⟨adC a⟩ 24)
  have hb := Blk.new w 24 ⟨adC a⟩
  refine Does.enter (fn := Tryz.f194) (by kernel_rfl) rfl (by kernel_rfl) (by kernel_rfl) ?_
  conv => whnf
  refine ⟨_, Loads.one (by kernel_rfl) (hb.at (i := 0) rfl), ?_⟩
  conv => whnf
  refine VIf.eq (fun e => ?_) (fun e => ?_)
  · conv => whnf
    refine ⟨_, Loads.all hb (by kernel_rfl) (by rw [adC_len h]; kernel_rfl), ?_⟩
    conv => whnf
    refine (valid_does h).mono ?_
    rintro v w1 ⟨rfl, ho⟩
    conv => whnf
    exact ⟨by simp [fourA, e], hA.t0 ho⟩
  · conv => whnf
    exact ⟨by simp [fourA, e], hA⟩
/-- May a packet's data stand where it is said to? -/
def placedP (p : Pk) : Bool :=
  withinI p.off 65528 && decide (p.off % 8 = 0) && decide (p.off + p.data.length ≤ 65535) && !(p.more && (decide (p.data.length = 0) || decide (p.data.length % 8 ≠ 0))) && (decide (p.off = 0) || decide (0 < p.data.length))
set_option maxRecDepth 100000 in
theorem placed_does {w : World} {p : Pk} {O D : At} (h : okPk p) (hl : p.data.length ≤ 140737488355328) : Does Tryz.prog 71 [.agg ⟨pkC p O D⟩] w (fun v w' => v = .bool (placedP p) ∧ Only [] w w') := by
  have hA := Only.alloc (Only.refl [] w) (.cells ⟨pkC p O D⟩ 56)
  have hb := Blk.new w 56 ⟨pkC p O D⟩
  refine Does.enter (fn := Tryz.f71) (by kernel_rfl) rfl (by kernel_rfl) (by kernel_rfl) ?_
  conv => whnf
  refine ⟨_, Loads.one (by kernel_rfl) (hb.pkData h), ?_⟩
  conv => whnf
  refine ⟨_, Loads.one (by kernel_rfl) (hb.pkOff h), ?_⟩
  conv => whnf
  refine withinI_does.mono ?_
  rintro v w1 ⟨rfl, rfl⟩
  refine splitB.abs fun N0 hN => ?_
  conv => whnf
  refine VIf.not (VIf.of (b := withinI p.off 65528) (fun h1 => ?_) (fun h1 => ?_))
  rotate_left
  · conv => whnf
    refine hN _ _ ?_
    conv => whnf
    exact ⟨by simp [placedP, h1], hA⟩
  have hin : 0 ≤ p.off ∧ p.off ≤ 65528 := by simpa [withinI] using h1
  have e2 : p.off.tmod 8 = p.off % 8 := Int.tmod_eq_emod_of_nonneg hin.1
  have e3 : IntKind.i64.wrap (p.off + (p.data.length : Int)) = p.off + (p.data.length : Int) := by rw [wi64]; omega
  have e4 : (p.data.length : Int).tmod 8 = ((p.data.length % 8 : Nat) : Int) := by rw [Int.tmod_eq_emod_of_nonneg (by omega)]; omega
  conv => whnf
  refine ⟨_, Loads.one (by kernel_rfl) (hb.pkOff h), ?_⟩
  conv => whnf
  refine VIf.ne (fun h2 => ?_) (fun h2 => ?_)
  · rw [e2] at h2
    conv => whnf
    refine hN _ _ ?_
    conv => whnf
    exact ⟨by simp [placedP, h2], hA⟩
  rw [e2] at h2
  conv => whnf
  refine ⟨_, Loads.one (by kernel_rfl) (hb.pkOff h), ?_⟩
  conv => whnf
  refine hN _ _ ?_
  conv => whnf
  rw [e3]
  refine VIf.dec (fun h3 => ?_) (fun h3 => ?_)
  · conv => whnf
    have h3' : ¬ p.off + (p.data.length : Int) ≤ 65535 := by omega
    exact ⟨by simp [placedP, h3'], hA⟩
  have h3' : p.off + (p.data.length : Int) ≤ 65535 := by omega
  refine vc.abs fun N1 hN1 => ?_
  conv => whnf
  refine ⟨_, Loads.one (by kernel_rfl) (hb.pkMore h), ?_⟩
  conv => whnf
  refine VIf.of (b := p.more) (fun hm => ?_) (fun hm => ?_)
  · conv => whnf
    refine VIf.eq (fun h4 => ?_) (fun h4 => ?_)
    · have h4 : p.data.length = 0 := by omega
      conv => whnf
      refine hN1 _ _ ?_
      conv => whnf
      exact ⟨by simp [placedP, hm, h4], hA⟩
    · have h4 : ¬ p.data.length = 0 := by omega
      conv => whnf
      refine hN1 _ _ ?_
      conv => whnf
      refine VIf.ne (fun h5 => ?_) (fun h5 => ?_)
      · rw [e4] at h5
        have h5 : ¬ p.data.length % 8 = 0 := by omega
        conv => whnf
        exact ⟨by simp [placedP, hm, h5], hA⟩
      · rw [e4] at h5
        have h5 : p.data.length % 8 = 0 := by omega
        conv => whnf
        refine ⟨_, Loads.one (by kernel_rfl) (hb.pkOff h), ?_⟩
        conv => whnf
        refine VIf.eq (fun h6 => ?_) (fun h6 => ?_)
        · conv => whnf
          exact ⟨by (have h7 : (p.data.length : Int) ≤ 65535 := (by omega)); (rw [h6] at h1); simp [placedP, h1, h7, hm, h4, h5, h6], hA⟩
        · conv => whnf
          exact ⟨by simp [placedP, h1, h2, h3', hm, h4, h5, h6], hA⟩
  · conv => whnf
    refine hN1 _ _ ?_
    conv => whnf
    refine ⟨_, Loads.one (by kernel_rfl) (hb.pkOff h), ?_⟩
    conv => whnf
    refine VIf.eq (fun h6 => ?_) (fun h6 => ?_)
    · conv => whnf
      exact ⟨by (have h7 : (p.data.length : Int) ≤ 65535 := (by omega)); (rw [h6] at h1); simp [placedP, h1, h7, hm, h6], hA⟩
    · conv => whnf
      exact ⟨by simp [placedP, h1, h2, h3', hm, h6], hA⟩
/-- Is a packet one? -/
def rightP (p : Pk) : Bool :=
  decide (p.v = 4) && decide (p.flow = 0) && !p.frag && decide (p.id ≤ 65535) && fourA p.src && fourA p.dst && withinI p.tos 255 && withinI p.proto 255 && withinI p.ttl 255 && placedP p && optsOk p.opts && decide (20 + p.opts.length + p.data.length ≤ 65535)
/-- The slices of a packet can be read. -/
structure Pks (w : World) (p : Pk) (O D : At) (B : Nat) : Prop where
  ok : okPk p
  opts : ∃ G, Bs w G O.1 p.opts.length p.opts ∧ ∀ k ∈ G, B ≤ k
  data : ∃ G, Bs w G D.1 p.data.length p.data ∧ ∀ k ∈ G, B ≤ k
  oc : p.opts.length ≤ O.2 ∧ O.2 ≤ 9223372036854775807
  dc : p.data.length ≤ D.2 ∧ D.2 ≤ 9223372036854775807
  ol : p.opts.length ≤ 140737488355328
  dl : p.data.length ≤ 140737488355328
theorem Pks.o {w w' : World} {p : Pk} {O D : At} {B : Nat} (h : Pks w p O D B) (ho : Only [] w w') : Pks w' p O D B :=
  ⟨h.ok, h.opts.elim fun G hG => ⟨G, hG.1.o ho, hG.2⟩, h.data.elim fun G hG => ⟨G, hG.1.o ho, hG.2⟩, h.oc, h.dc, h.ol, h.dl⟩
theorem Pks.far {w w' : World} {p : Pk} {O D : At} {B g : Nat} (h : Pks w p O D B) (ho : Only [g] w w') (hg : g < B) : Pks w' p O D B :=
  ⟨h.ok, h.opts.elim fun G hG => ⟨G, hG.1.only ho (fun k hk => by have := hG.2 k hk; simp; omega), hG.2⟩, h.data.elim fun G hG => ⟨G, hG.1.only ho (fun k hk => by have := hG.2 k hk; simp; omega), hG.2⟩, h.oc, h.dc, h.ol, h.dl⟩
theorem Pks.below {w : World} {p : Pk} {O D : At} {B B' : Nat} (h : Pks w p O D B) (hB : B' ≤ B) : Pks w p O D B' :=
  ⟨h.ok, h.opts.elim fun G hG => ⟨G, hG.1, fun k hk => Nat.le_trans hB (hG.2 k hk)⟩, h.data.elim fun G hG => ⟨G, hG.1, fun k hk => Nat.le_trans hB (hG.2 k hk)⟩, h.oc, h.dc, h.ol, h.dl⟩
theorem right_e {a b : Nat} (ha : a ≤ 140737488355328) (hb : b ≤ 140737488355328) : IntKind.i64.wrap (IntKind.i64.wrap (20 + (a : Int)) + (b : Int)) = 20 + (a : Int) + (b : Int) := by
  have h1 : IntKind.i64.wrap (20 + (a : Int)) = 20 + (a : Int) := by rw [wi64]; omega
  rw [h1, wi64]
  omega
theorem right_d (a b : Nat) : decide (20 + (a : Int) + (b : Int) ≤ 65535) = decide (20 + a + b ≤ 65535) := by
  rw [decide_eq_decide]
  omega
set_option maxHeartbeats 4000000 in
set_option maxRecDepth 100000 in
theorem right_does {w : World} {p : Pk} {O D : At} {B : Nat} (hp : Pks w p O D B) (hs : Shp w) : Does Tryz.prog 126 [.agg ⟨pkC p O D⟩] w (fun v w' => v = .bool (rightP p) ∧ Only [] w w') := by
  have h := hp.ok
  have hoc := hp.oc
  have hdc := hp.dc
  have hA := Only.alloc (Only.refl [] w) (.cells ⟨pkC p O D⟩ 56)
  have hb := Blk.new w 56 ⟨pkC p O D⟩
  refine Does.enter (fn := Tryz.f126) (by kernel_rfl) rfl (by kernel_rfl) (by kernel_rfl) ?_
  refine vc.abs fun N0 hN => ?_
  conv => whnf
  refine hN _ _ ?_
  have o0 := hA
  have b0 := hb
  have hz0 := hA.size
  refine vc.abs2 rfl fun N1 hN1 => ?_
  conv => whnf
  refine ⟨_, Loads.one (by kernel_rfl) (b0.pkV), ?_⟩
  conv => whnf
  refine VIf.ne (fun f1 => ?_) (fun f1 => ?_)
  · conv => whnf
    refine hN1 _ _ ?_
    conv => whnf
    exact ⟨by simp [rightP, f1], o0⟩
  conv => whnf
  refine ⟨_, Loads.one (by kernel_rfl) (b0.pkFlow), ?_⟩
  conv => whnf
  refine VIf.ne (fun f2 => ?_) (fun f2 => ?_)
  · conv => whnf
    refine hN1 _ _ ?_
    conv => whnf
    exact ⟨by simp [rightP, f1, f2], o0⟩
  conv => whnf
  refine ⟨_, Loads.one (by kernel_rfl) (b0.pkFrag h), ?_⟩
  conv => whnf
  refine VIf.of (b := p.frag) (fun f3 => ?_) (fun f3 => ?_)
  · conv => whnf
    refine hN1 _ _ ?_
    conv => whnf
    exact ⟨by simp [rightP, f1, f2, f3], o0⟩
  conv => whnf
  refine ⟨_, Loads.one (by kernel_rfl) (b0.pkId h), ?_⟩
  conv => whnf
  refine VIf.dec (fun f4 => ?_) (fun f4 => ?_)
  · have f4 : ¬ p.id ≤ 65535 := by omega
    conv => whnf
    refine hN1 _ _ ?_
    conv => whnf
    exact ⟨by simp [rightP, f1, f2, f3, f4], o0⟩
  have f4 : p.id ≤ 65535 := by omega
  conv => whnf
  refine ⟨_, b0.pkSrc h, ?_⟩
  conv => whnf
  refine (four_does h.src).mono ?_
  rintro v w1 ⟨rfl, q1⟩
  have o1 := o0.t0 q1
  have b1 := b0.only q1 (by simp)
  conv => whnf
  refine VIf.not (VIf.of (b := fourA p.src) (fun f5 => ?_) (fun f5 => ?_))
  rotate_left
  · conv => whnf
    refine hN1 _ _ ?_
    conv => whnf
    exact ⟨by simp [rightP, f1, f2, f3, f4, f5], o1⟩
  conv => whnf
  refine ⟨_, b1.pkDst h, ?_⟩
  conv => whnf
  refine (four_does h.dst).mono ?_
  rintro v w2 ⟨rfl, q2⟩
  have o2 := o1.t0 q2
  have b2 := b1.only q2 (by simp)
  conv => whnf
  refine hN1 _ _ ?_
  conv => whnf
  refine VIf.not (VIf.of (b := fourA p.dst) (fun f6 => ?_) (fun f6 => ?_))
  rotate_left
  · conv => whnf
    exact ⟨by simp [rightP, f1, f2, f3, f4, f5, f6], o2⟩
  refine vc.abs2 rfl fun N2 hN2 => ?_
  conv => whnf
  refine ⟨_, Loads.one (by kernel_rfl) (b2.pkTos), ?_⟩
  conv => whnf
  refine (withinI_does).mono ?_
  rintro v w' ⟨rfl, rfl⟩
  conv => whnf
  refine VIf.not (VIf.of (b := withinI p.tos 255) (fun f7 => ?_) (fun f7 => ?_))
  rotate_left
  · conv => whnf
    refine hN2 _ _ ?_
    conv => whnf
    exact ⟨by simp [rightP, f1, f2, f3, f4, f5, f6, f7], o2⟩
  conv => whnf
  refine ⟨_, Loads.one (by kernel_rfl) (b2.pkProto h), ?_⟩
  conv => whnf
  refine (withinI_does).mono ?_
  rintro v w' ⟨rfl, rfl⟩
  conv => whnf
  refine VIf.not (VIf.of (b := withinI p.proto 255) (fun f8 => ?_) (fun f8 => ?_))
  rotate_left
  · conv => whnf
    refine hN2 _ _ ?_
    conv => whnf
    exact ⟨by simp [rightP, f1, f2, f3, f4, f5, f6, f7, f8], o2⟩
  conv => whnf
  refine ⟨_, Loads.one (by kernel_rfl) (b2.pkTtl h), ?_⟩
  conv => whnf
  refine (withinI_does).mono ?_
  rintro v w' ⟨rfl, rfl⟩
  conv => whnf
  refine VIf.not (VIf.of (b := withinI p.ttl 255) (fun f9 => ?_) (fun f9 => ?_))
  rotate_left
  · conv => whnf
    refine hN2 _ _ ?_
    conv => whnf
    exact ⟨by simp [rightP, f1, f2, f3, f4, f5, f6, f7, f8, f9], o2⟩
  conv => whnf
  refine ⟨_, b2.pkAll h, ?_⟩
  conv => whnf
  refine (placed_does h hp.dl).mono ?_
  rintro v w3 ⟨rfl, q3⟩
  have o3 := o2.t0 q3
  have b3 := b2.only q3 (by simp)
  conv => whnf
  refine VIf.not (VIf.of (b := placedP p) (fun f10 => ?_) (fun f10 => ?_))
  rotate_left
  · conv => whnf
    refine hN2 _ _ ?_
    conv => whnf
    exact ⟨by simp [rightP, f1, f2, f3, f4, f5, f6, f7, f8, f9, f10], o3⟩
  conv => whnf
  refine ⟨_, Loads.one (by kernel_rfl) (b3.pkOpts h), ?_⟩
  conv => whnf
  obtain ⟨Go, hGo, -⟩ := (hp.o o3).opts
  refine (optsValid_does hGo (hs.o o3) hoc.1 (by omega)).mono ?_
  rintro v w4 ⟨rfl, q4⟩
  have o4 := o3.t0 q4
  have b4 := b3.only q4 (by simp)
  conv => whnf
  refine hN2 _ _ ?_
  conv => whnf
  refine VIf.not (VIf.of (b := optsOk p.opts) (fun f11 => ?_) (fun f11 => ?_))
  rotate_left
  · conv => whnf
    exact ⟨by simp [rightP, f1, f2, f3, f4, f5, f6, f7, f8, f9, f10, f11], o4⟩
  conv => whnf
  refine ⟨_, Loads.one (by kernel_rfl) (b4.pkOpts h), ?_⟩
  conv => whnf
  refine ⟨_, Loads.one (by kernel_rfl) (b4.pkData h), ?_⟩
  conv => whnf
  have e : IntKind.i64.wrap (IntKind.i64.wrap (20 + (p.opts.length : Int)) + (p.data.length : Int)) = 20 + (p.opts.length : Int) + (p.data.length : Int) := right_e hp.ol hp.dl
  refine ⟨congrArg Value.bool ?_, o4⟩
  rw [e]
  have e2 : decide (20 + (p.opts.length : Int) + (p.data.length : Int) ≤ 65535) = decide (20 + p.opts.length + p.data.length ≤ 65535) := right_d _ _
  rw [e2]
  simp [rightP, f1, f2, f3, f4, f5, f6, f7, f8, f9, f10, f11]
end Go.Proofs.YtofomopdaponbaaGreatDoor
