/-
  The laws' helpers: short, peer, an end's address and port, datagram.
-/
import Derived.Test.YtofomopdaponbaaGreatDoorZo
import Derived.Test.YtofomopdaponbaaGreatDoorZh
namespace Go.Proofs.YtofomopdaponbaaGreatDoor
open Go.RowKit
set_option linter.unusedVariables false
set_option linter.unusedSimpArgs false

def byteB (v : Int) : UInt8 := UInt8.ofNat v.toNat
set_option maxRecDepth 100000 in
theorem short_does {w : World} {G : List Nat} {A : Option Addr} {n c k : Nat} {l : List UInt8} (h : Bs w G A n l) (hn : n ≤ 140737488355328) (hc : n ≤ c) (hcm : c ≤ 9223372036854775807) :
    Does Tryz.prog 24 [.slice A n c, .int .i64 k] w (fun v w' => Own w w' 5 1 ((l.take k).map u8) v) := by
  have hl := h.len
  have hm : (min (n : Int) (k : Int)) = ((min n k : Nat) : Int) := by omega
  have hcut := Bs.cut (lo := 0) (hi := min n k) (m := c) h (Nat.zero_le _) (by omega) (by omega) (A' := if c = 0 then A else A.map (·.add (0 * 1))) rfl
  have hcut : Bs w G (if c = 0 then A else A.map (·.add (0 * 1))) (min n k) (l.take k) := by
    have e : (l.drop 0).take (min n k - 0) = l.take k := by
      rw [List.drop_zero, Nat.sub_zero, ← hl, List.take_eq_take_iff]
      omega
    rw [e] at hcut
    exact hcut
  refine Does.enter (fn := Tryz.f24) (by kernel_rfl) rfl (by kernel_rfl) (by kernel_rfl) ?_
  conv => whnf
  refine ⟨0, min n k, c, rfl, ?_, rfl, Nat.zero_le _, by omega, Nat.le_refl _, if c = 0 then A else A.map (·.add (0 * 1)), min n k, c, rfl, rfl, rfl, ?_⟩
  · exact hm
  conv => whnf
  refine (own_does hcut (by omega)).mono ?_
  rintro v w' ⟨X, nX, cX, FX, rfl, h1, h2, h3⟩
  conv => whnf
  exact ⟨X, nX, cX, FX, rfl, h1, h2, h3⟩
def hostA (h : Int) : Ad := fourD 10 0 0 (byteB (1 + andI .i64 h 7))
def peerA (k : Int) : Ad := fourD 198 51 100 (byteB (1 + andI .i64 k 15))
def peerP (k : Int) : Int := 1 + andI .i64 (k / 16) 1023
theorem and7n {x : Int} : 0 ≤ andI .i64 x 7 ∧ andI .i64 x 7 ≤ 7 := by
  unfold andI
  have h1 : (BitVec.ofInt IntKind.i64.bits x &&& BitVec.ofInt IntKind.i64.bits 7).toNat ≤ 7 := by
    rw [BitVec.toNat_and]
    exact Nat.le_trans Nat.and_le_right (by decide)
  rw [wi64]
  omega
theorem and15n {x : Int} : 0 ≤ andI .i64 x 15 ∧ andI .i64 x 15 ≤ 15 := by
  unfold andI
  have h1 : (BitVec.ofInt IntKind.i64.bits x &&& BitVec.ofInt IntKind.i64.bits 15).toNat ≤ 15 := by
    rw [BitVec.toNat_and]
    exact Nat.le_trans Nat.and_le_right (by decide)
  rw [wi64]
  omega
theorem and1023n {x : Int} : 0 ≤ andI .i64 x 1023 ∧ andI .i64 x 1023 ≤ 1023 := by
  unfold andI
  have h1 : (BitVec.ofInt IntKind.i64.bits x &&& BitVec.ofInt IntKind.i64.bits 1023).toNat ≤ 1023 := by
    rw [BitVec.toNat_and]
    exact Nat.le_trans Nat.and_le_right (by decide)
  rw [wi64]
  omega
theorem and65535n {x : Int} : 0 ≤ andI .i64 x 65535 ∧ andI .i64 x 65535 ≤ 65535 := by
  unfold andI
  have h1 : (BitVec.ofInt IntKind.i64.bits x &&& BitVec.ofInt IntKind.i64.bits 65535).toNat ≤ 65535 := by
    rw [BitVec.toNat_and]
    exact Nat.le_trans Nat.and_le_right (by decide)
  rw [wi64]
  omega
theorem byteB_u8 {v : Int} (h0 : 0 ≤ v) (h1 : v ≤ 255) : Value.int .u8 (IntKind.u8.wrap (IntKind.i64.wrap v)) = u8 (byteB v) := by
  refine congrArg (Value.int .u8) ?_
  have e : ((byteB v).toNat : Int) = v := by
    simp only [byteB, UInt8.toNat_ofNat']
    omega
  rw [wi_id (by omega) (by omega), wr8, e]
  omega
set_option maxRecDepth 100000 in
theorem endAddr_does {w : World} {h p : Int} : Does Tryz.prog 27 [.agg ⟨[.int .i64 h, .int .i64 p]⟩] w (fun v w' => v = .agg ⟨adC (hostA h)⟩ ∧ Only [] w w') := by
  have hA := Only.alloc (Only.refl [] w) (.cells ⟨[.int .i64 h, .int .i64 p]⟩ 66)
  have b1 := Blk.new w 66 ⟨[.int .i64 h, .int .i64 p]⟩
  have hb := and7n (x := h)
  have e := byteB_u8 (v := 1 + andI .i64 h 7) (by omega) (by omega)
  refine Does.enter (fn := Tryz.f27) (by kernel_rfl) rfl (by kernel_rfl) (by kernel_rfl) ?_
  conv => whnf
  refine ⟨.int .i64 h, Loads.one (by kernel_rfl) ((b1.alloc _).at (i := 0) rfl), ?_⟩
  conv => whnf
  rw [e]
  refine (four_does' (a := 10) (b := 0) (c := 0) (d := byteB (1 + andI .i64 h 7))).mono ?_
  rintro v w2 ⟨rfl, ho2⟩
  conv => whnf
  have bz := (Blk.new (w.alloc (.cells ⟨[.int .i64 h, .int .i64 p]⟩ 66)) 24 ⟨adC (0, z16)⟩).only ho2 (by simp)
  have hoz := (hA.alloc _).t0 ho2
  have ok4 := fourD_ok 10 0 0 (byteB (1 + andI .i64 h 7))
  refine vStore.all (cs := adC (fourD 10 0 0 (byteB (1 + andI .i64 h 7)))) bz (by kernel_rfl) (by kernel_rfl) (one_adC _) (fun w3 b3 ho3 _ => ?_)
  conv => whnf
  refine ⟨_, Loads.all b3 (by kernel_rfl) (by kernel_rfl), ?_⟩
  conv => whnf
  exact ⟨rfl, hoz.nw ho3 hA.size⟩
set_option maxRecDepth 100000 in
theorem endPort_does {w : World} {h p : Int} : Does Tryz.prog 28 [.agg ⟨[.int .i64 h, .int .i64 p]⟩] w (fun v w' => v = .int .i64 (andI .i64 p 65535) ∧ Only [] w w') := by
  have hA := Only.alloc (Only.refl [] w) (.cells ⟨[.int .i64 h, .int .i64 p]⟩ 66)
  have b1 := Blk.new w 66 ⟨[.int .i64 h, .int .i64 p]⟩
  refine Does.enter (fn := Tryz.f28) (by kernel_rfl) rfl (by kernel_rfl) (by kernel_rfl) ?_
  conv => whnf
  refine ⟨.int .i64 p, Loads.one (by kernel_rfl) (b1.at (i := 1) rfl), ?_⟩
  conv => whnf
  exact ⟨rfl, hA⟩
set_option maxRecDepth 100000 in
theorem peer_does {w : World} {k : Int} : Does Tryz.prog 25 [.int .i64 k] w (fun v w' => v = .tuple ⟨[.agg ⟨adC (peerA k)⟩, .int .i64 (peerP k)]⟩ ∧ Only [] w w') := by
  have hA := Only.alloc (Only.refl [] w) (.cells ⟨adC (0, z16)⟩ 24)
  have hb := and15n (x := k)
  have hc := and1023n (x := k / 16)
  have e := byteB_u8 (v := 1 + andI .i64 k 15) (by omega) (by omega)
  have e2 : IntKind.i64.wrap (1 + andI .i64 (k / 16) 1023) = peerP k := wi_id (by omega) (by omega)
  refine Does.enter (fn := Tryz.f25) (by kernel_rfl) rfl (by kernel_rfl) (by kernel_rfl) ?_
  conv => whnf
  rw [e]
  refine (four_does' (a := 198) (b := 51) (c := 100) (d := byteB (1 + andI .i64 k 15))).mono ?_
  rintro v w2 ⟨rfl, ho2⟩
  conv => whnf
  have bz := (Blk.new w 24 ⟨adC (0, z16)⟩).only ho2 (by simp)
  have hoz := hA.t0 ho2
  refine vStore.all (cs := adC (fourD 198 51 100 (byteB (1 + andI .i64 k 15)))) bz (by kernel_rfl) (by kernel_rfl) (one_adC _) (fun w3 b3 ho3 _ => ?_)
  conv => whnf
  refine ⟨_, Loads.all b3 (by kernel_rfl) (by kernel_rfl), ?_⟩
  conv => whnf
  exact ⟨congrArg (fun x => Value.tuple ⟨[.agg ⟨adC (peerA k)⟩, .int .i64 x]⟩) e2, hoz.nw ho3 (Nat.le_refl _)⟩
def xorB (c : UInt8) (k : Int) : UInt8 := UInt8.ofNat (xorI .u8 (c.toNat : Int) (IntKind.u8.wrap k)).toNat
theorem xorB_u8 (c : UInt8) (k : Int) : Value.int .u8 (xorI .u8 (c.toNat : Int) (IntKind.u8.wrap k)) = u8 (xorB c k) := by
  refine congrArg (Value.int .u8) ?_
  have h : 0 ≤ xorI .u8 (c.toNat : Int) (IntKind.u8.wrap k) ∧ xorI .u8 (c.toNat : Int) (IntKind.u8.wrap k) ≤ 255 := by
    unfold xorI
    rw [wr8]
    omega
  simp only [xorB, UInt8.toNat_ofNat']
  omega
/-- A datagram whose sum is made wrong. -/
def kindL (d : List UInt8) (kind : Int) : List UInt8 :=
  if kind > 1 then (if (d.set 6 (xorB (d.getD 6 0) kind)).getD 6 0 = 0 ∧ (d.set 6 (xorB (d.getD 6 0) kind)).getD 7 0 = 0 then (d.set 6 (xorB (d.getD 6 0) kind)).set 6 4 else d.set 6 (xorB (d.getD 6 0) kind)) else d
def dgPk (src dst : Ad) (id : Int) (l : List UInt8) : Pk := ⟨4, 0, 0, src, dst, 17, 64, id, false, false, false, 0, [], l⟩
def datagramL (src dst : Ad) (sp dp : Int) (l : List UInt8) (kind id : Int) : List UInt8 := packL (dgPk src dst id (kindL (datL src dst ⟨sp, dp, kind == 1, l⟩) kind))
theorem datL_len (a b : Ad) (d : Dg) : (datL a b d).length = 8 + d.data.length := by
  unfold datL
  split
  · exact dat0_len _ _ _
  · rw [setW_len, dat0_len]
theorem kindL_len (d : List UInt8) (k : Int) : (kindL d k).length = d.length := by
  unfold kindL
  split
  · split <;> simp
  · rfl
theorem dgPk_right {a b : Ad} {id : Int} {l : List UInt8} (hp : pairA a b = true) (h4 : a.1 = 4) (hid : id ≤ 65535) (hl : l.length ≤ 65515) : rightP (dgPk a b id l) = true := by
  unfold pairA at hp
  simp only [Bool.and_eq_true, decide_eq_true_eq] at hp
  have f1 : fourA a = true := by unfold fourA; rw [decide_eq_true h4, hp.1.2]; rfl
  have f2 : fourA b = true := by unfold fourA; rw [decide_eq_true (hp.1.1 ▸ h4), hp.2]; rfl
  have hpl : placedP (dgPk a b id l) = true := by
    unfold placedP withinI
    simp [dgPk]
    try omega
  have ho : optsOk (dgPk a b id l).opts = true := by kernel_rfl
  unfold rightP
  rw [hpl, ho]
  simp only [dgPk, f1, f2, withinI, decide_eq_true hid]
  simp
  exact ⟨decide_eq_true hid, decide_eq_true (by omega)⟩
set_option maxHeartbeats 4000000 in
set_option maxRecDepth 100000 in
theorem datagram_does {w : World} {a b : Ad} {sp dp kind id : Int} {G : List Nat} {A : Option Addr} {n c : Nat} {l : List UInt8} (ha : okAd a) (hb : okAd b) (hp : pairA a b = true) (h4 : a.1 = 4) (hl : Bs w G A n l) (hn : n ≤ 65000) (hs : Shp w) (h1 : 0 ≤ sp ∧ sp ≤ 65535) (h2 : 0 ≤ dp ∧ dp ≤ 65535) (hid : 0 ≤ id ∧ id ≤ 65535) :
    Does Tryz.prog 26 [.agg ⟨adC a⟩, .agg ⟨adC b⟩, .int .i64 sp, .int .i64 dp, .slice A n c, .int .i64 kind, .int .u32 id] w (fun r w' => Own w w' 5 1 ((datagramL a b sp dp l kind id).map u8) r) := by
  have hA := (Only.alloc (Only.refl [] w) (.cells ⟨adC a⟩ 24)).alloc (.cells ⟨adC b⟩ 24)
  have b7 := (Blk.new w 24 ⟨adC a⟩).alloc (.cells ⟨adC b⟩ 24)
  have b8 := Blk.new (w.alloc (.cells ⟨adC a⟩ 24)) 24 ⟨adC b⟩
  have hll := hl.len
  refine Does.enter (fn := Tryz.f26) (by kernel_rfl) rfl (by kernel_rfl) (by kernel_rfl) ?_
  conv => whnf
  refine VDraw.abs fun N0 hN => ?_
  refine VDraw.held (fun w' => Blk w' w.heap.size 24 ⟨adC a⟩ ∧ Blk w' (w.alloc (.cells ⟨adC a⟩ 24)).heap.size 24 ⟨adC b⟩) [0, 1, 2, 3, 4, 5, 6, 7, 8, 9, 10, 11, 12, 13, 14] (by kernel_rfl) (by kernel_rfl) ⟨b7.drew, b8.drew⟩ ?_
  conv => whnf
  refine ⟨_, fun w' hw' => Loads.all hw'.1 (by kernel_rfl) (by rw [adC_len ha]; kernel_rfl), ?_⟩
  conv => whnf
  refine ⟨_, fun w' hw' => Loads.all hw'.2 (by kernel_rfl) (by rw [adC_len hb]; kernel_rfl), ?_⟩
  conv => whnf
  refine (own_does (hl.o hA.drew) (by omega)).mono ?_
  rintro v wo ⟨X, nX, cX, FX, rfl, hrX, hoX, hFX⟩
  obtain rfl := (Row.bs hrX).len
  have hwo := hA.drew.t0 hoX
  have b7o := b7.drew.only hoX (by simp)
  have b8o := b8.drew.only hoX (by simp)
  refine ⟨⟨b7o, b8o⟩, ?_⟩
  have hdg : Dgs wo ⟨sp, dp, kind == 1, l⟩ (X, cX) 0 := ⟨⟨FX, Row.bs hrX, fun k hk => ⟨Nat.zero_le _, hrX.lt k hk⟩⟩, hrX.le.1, by have h2 := hrX.le.2; unfold maxLen at h2; exact h2⟩
  conv => whnf
  refine (udpBuild_does (d := ⟨sp, dp, kind == 1, l⟩) (D := (X, cX)) ha hb hp h4 hdg h1 h2 (by dsimp only; omega)).mono ?_
  rintro v wu ⟨Y, cY, FY, rfl, hrY, hoY, hFY⟩
  have b7u := b7o.only hoY (by simp)
  have b8u := b8o.only hoY (by simp)
  have hwu := hwo.t0 hoY
  refine ⟨⟨b7u, b8u⟩, ?_⟩
  have hdl : (datL a b ⟨sp, dp, kind == 1, l⟩).length = 8 + l.length := datL_len _ _ _
  refine hN _ _ ?_
  conv => whnf
  have hY0 : 0 < (datL a b ⟨sp, dp, kind == 1, l⟩).length := by omega
  generalize hde : datL a b ⟨sp, dp, kind == 1, l⟩ = d at *
  refine VJoin.cut (α := Unit) [(34, 56)] (fun _ => []) (fun _ w' => Row w' 5 1 FY Y d.length cY ((kindL d kind).map u8) ∧ Only FY wu w') (by kernel_rfl) ?_ ?_
  · conv => whnf
    refine VIf.dec (fun hk => ?_) (fun hk => ?_)
    rotate_left
    · have hk : ¬ kind > 1 := hk
      conv => whnf
      exact ⟨(), trivial, by unfold kindL; rw [if_neg hk]; exact hrY, Only.refl _ _⟩
    have hk : kind > 1 := hk
    have hx8 := xorB_u8 (d.getD 6 0) kind
    obtain ⟨g, rfl, rfl, hf, ⟨u, hu⟩, hr1⟩ := hrY.put (i := 6) (v := u8 (xorB (d.getD 6 0) kind)) (by omega)
    have hc6 := (Row.bs hrY).ld (getD_some (show 6 < d.length by omega))
    rw [show (d.map u8).set 6 (u8 (xorB (d.getD 6 0) kind)) = (d.set 6 (xorB (d.getD 6 0) kind)).map u8 from List.map_set.symm] at hr1
    have ho1 : Only [g] wu (wu.setCell ⟨g, 6, none⟩ (u8 (xorB (d.getD 6 0) kind))) := ((Only.refl [g] wu)).put (.inl (by simp))
    have hkd : kindL d kind = if (d.set 6 (xorB (d.getD 6 0) kind)).getD 6 0 = 0 ∧ (d.set 6 (xorB (d.getD 6 0) kind)).getD 7 0 = 0 then (d.set 6 (xorB (d.getD 6 0) kind)).set 6 4 else d.set 6 (xorB (d.getD 6 0) kind) := if_pos hk
    have hd1 : (d.set 6 (xorB (d.getD 6 0) kind)).length = d.length := List.length_set
    conv => whnf
    refine ⟨_, _, rfl, 6, 6, rfl, by omega, p0 _, ?_⟩
    conv => whnf
    refine ⟨_, Loads.one (by kernel_rfl) hc6, ?_⟩
    conv => whnf
    refine ⟨_, _, rfl, 6, 6, rfl, by omega, p0 _, ?_⟩
    conv => whnf
    rw [hx8]
    refine ⟨_, Stores.one (by kernel_rfl) rfl hu hf, ?_⟩
    generalize d.set 6 (xorB (d.getD 6 0) kind) = d1 at *
    have g6 := (Row.bs hr1).ld (getD_some (show 6 < d1.length by omega))
    have g7 := (Row.bs hr1).ld (getD_some (show 7 < d1.length by omega))
    conv => whnf
    refine ⟨_, _, rfl, 6, 6, rfl, by omega, p0 _, ?_⟩
    conv => whnf
    refine ⟨_, Loads.one (by kernel_rfl) g6, ?_⟩
    conv => whnf
    have e0 : ∀ {x : UInt8}, (x.toNat : Int) = 0 → x = 0 := fun {x} h => UInt8.toNat_inj.1 (by simpa using h)
    refine VIf.eq (fun z6 => ?_) (fun z6 => ?_)
    · conv => whnf
      refine ⟨_, _, rfl, 7, 7, rfl, by omega, p0 _, ?_⟩
      conv => whnf
      refine ⟨_, Loads.one (by kernel_rfl) g7, ?_⟩
      conv => whnf
      refine VIf.eq (fun z7 => ?_) (fun z7 => ?_)
      · obtain ⟨g', e, _, hf2, ⟨u2, hu2⟩, hr2⟩ := hr1.put (i := 6) (v := u8 4) (by omega)
        cases e
        rw [show (d1.map u8).set 6 (u8 4) = (d1.set 6 4).map u8 from List.map_set.symm] at hr2
        conv => whnf
        refine ⟨_, _, rfl, 6, 6, rfl, by omega, p0 _, ?_⟩
        conv => whnf
        refine ⟨_, Stores.one (by kernel_rfl) rfl hu2 hf2, ?_⟩
        conv => whnf
        exact ⟨(), trivial, by rw [hkd, if_pos ⟨e0 z6, e0 z7⟩]; exact hr2, ho1.put (.inl (by simp))⟩
      · conv => whnf
        exact ⟨(), trivial, by rw [hkd, if_neg (fun h => z7 (by rw [h.2]; rfl))]; exact hr1, ho1⟩
    · conv => whnf
      exact ⟨(), trivial, by rw [hkd, if_neg (fun h => z6 (by rw [h.1]; rfl))]; exact hr1, ho1⟩
  rintro _ wk j ⟨hrK, hoK⟩
  have hkl : (kindL d kind).length = d.length := kindL_len _ _
  have hFn : ∀ k ∈ FY, w.heap.size ≤ k := fun k hk => by
    have h1 := hFY k hk
    have h2 := hwo.size
    omega
  have hwk : Only [] w wk := hwu.trans hoK (fun k hk => .inr (hFn k hk))
  have hFo : ∀ k ∈ FY, wo.heap.size ≤ k := hFY
  have b7k := b7u.only hoK (fun hm => by have := hFo _ hm; have := b7o.lt; omega)
  have b8k := b8u.only hoK (fun hm => by have := hFo _ hm; have := b8o.lt; omega)
  conv => whnf
  refine ⟨_, Loads.all b7k (by kernel_rfl) (by rw [adC_len ha]; kernel_rfl), ?_⟩
  conv => whnf
  refine ⟨_, Loads.all b8k (by kernel_rfl) (by rw [adC_len hb]; kernel_rfl), ?_⟩
  conv => whnf
  refine lenIs.of (by rw [List.length_map]; exact ha.2.2) ?_
  conv => whnf
  refine lenIs.of (by rw [List.length_map]; exact hb.2.2) ?_
  conv => whnf
  have hpk : Pks wk (dgPk a b id (kindL d kind)) (none, 0) (Y, cY) 0 := ⟨⟨ha, hb, ⟨show (-9223372036854775808 : Int) ≤ 0 by decide, show (0 : Int) ≤ 9223372036854775807 by decide⟩⟩, ⟨[], Sl.nil _ _ _ _, by simp⟩, ⟨FY, by show Bs wk FY Y (kindL d kind).length (kindL d kind); rw [hkl]; exact Row.bs hrK, fun k _ => Nat.zero_le _⟩, ⟨Nat.le_refl 0, show 0 ≤ 9223372036854775807 by decide⟩, ⟨by show (kindL d kind).length ≤ cY; rw [hkl]; exact hrK.le.1, by have h2 := hrK.le.2; unfold maxLen at h2; exact h2⟩, Nat.zero_le _, by show (kindL d kind).length ≤ _; rw [hkl]; omega⟩
  have hrt : rightP (dgPk a b id (kindL d kind)) = true := dgPk_right hp h4 hid.2 (by rw [hkl]; omega)
  rw [← hkl]
  refine (ipBuild_does hpk (hs.o hwk) hrt hid.1).mono ?_
  rintro v wz ⟨Z, cZ, FZ, rfl, hrZ, hoZ, hFZ⟩
  conv => whnf
  refine ⟨Z, _, cZ, FZ, rfl, ?_, hwk.t0 hoZ, fun k hk => Nat.le_trans hwk.size (hFZ k hk)⟩
  show Row wz 5 1 FZ Z (packL (dgPk a b id (kindL d kind))).length cZ ((packL (dgPk a b id (kindL (datL a b ⟨sp, dp, kind == 1, l⟩) kind))).map u8)
  rw [hde]
  exact hrZ
end Go.Proofs.YtofomopdaponbaaGreatDoor
