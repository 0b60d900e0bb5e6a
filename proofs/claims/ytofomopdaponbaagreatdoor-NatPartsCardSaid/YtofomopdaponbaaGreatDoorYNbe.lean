/-
  What both ways begin with; an ICMP error's quote (package nat: begin, quoted).
-/
import Derived.Test.YtofomopdaponbaaGreatDoorZg
namespace Go.Proofs.YtofomopdaponbaaGreatDoor
open Go.RowKit
set_option linter.unusedVariables false
set_option linter.unusedSimpArgs false

def beginP (s : NatS) (now : Int) (l : List UInt8) : Pk := if (passesS s now).1 = true then parseP l else zeroP
def beginE (s : NatS) (now : Int) (l : List UInt8) : Int := if (passesS s now).1 = true then parseE l else 1
theorem Pks.only {w w' : World} {p : Pk} {O D : At} {B : Nat} {F : List Nat} (h : Pks w p O D B) (ho : Only F w w') (hF : ∀ k ∈ F, k < B) : Pks w' p O D B := by
  obtain ⟨h1, ⟨G1, h2, h3⟩, ⟨G2, h4, h5⟩, h6, h7, h8, h9⟩ := h
  exact ⟨h1, ⟨G1, h2.only ho (fun k hk hm => by have := h3 k hk; have := hF k hm; omega), h3⟩, ⟨G2, h4.only ho (fun k hk hm => by have := h5 k hk; have := hF k hm; omega), h5⟩, h6, h7, h8, h9⟩
set_option maxRecDepth 100000 in
theorem begin_does {w : World} {T : Nat} {s : NatS} {F G : List Nat} {A : Option Addr} {n c : Nat} {l : List UInt8} {now : Int} (h : St w T s F) (ok : okS s) (hl : Bs w G A n l) (hG : ∀ k ∈ G, k ∉ F) (hs : Shp w) (hsF : 1 ∉ F) (hn : n ≤ 140737488355328) (hc : n ≤ c) (hcm : c ≤ 9223372036854775807) :
    Does Tryz.prog 48 [.pointer (some ⟨T, 0, none⟩), .slice A n c, .int .i64 now] w (fun v w' => ∃ O D, v = .tuple ⟨[.agg ⟨pkC (beginP s now l) O D⟩, .int .i64 (beginE s now l)]⟩ ∧ Pks w' (beginP s now l) O D w.heap.size ∧ St w' T (passesS s now).2 F ∧ Only F w w') := by
  have hA := Only.alloc (Only.refl [] w) (.cells ⟨pkC zeroP (none, 0) (none, 0)⟩ 56)
  have b6 := Blk.new w 56 ⟨pkC zeroP (none, 0) (none, 0)⟩
  have hq : w.heap.size ∉ F := fun h1 => Nat.lt_irrefl _ (h.lt _ h1)
  refine Does.enter (fn := Tryz.f48) (by kernel_rfl) rfl (by kernel_rfl) (by kernel_rfl) ?_
  conv => whnf
  refine (passes_does (h.o hA) ok).mono ?_
  rintro v w2 ⟨rfl, h2, ho2⟩
  have how2 : Only F w w2 := hA.zf ho2
  have b62 := b6.only ho2 hq
  have hl2 := hl.only how2 hG
  have hs2 : Shp w2 := hs.only how2 hsF
  conv => whnf
  refine VIf.not (VIf.of (b := (passesS s now).1) (fun e => ?_) (fun e => ?_))
  · conv => whnf
    refine (parse_does hl2 hs2 hn hc hcm).mono ?_
    rintro v w3 ⟨O, D, rfl, hp3, ho3⟩
    have b63 := b62.only ho3 (by simp)
    have e1 : beginP s now l = parseP l := if_pos e
    have e2 : beginE s now l = parseE l := if_pos e
    rw [e1, e2]
    have hpl := pk_len (O := O) (D := D) hp3.ok
    conv => whnf
    refine vStore.all (cs := pkC (parseP l) O D) b63 (by rw [hpl]; kernel_rfl) (by rw [hpl]; kernel_rfl) (one_pkC _ _ _) (fun w4 b64 ho4 hz4 => ?_)
    have hp4 := hp3.only ho4 (by simp; have := b62.lt; omega)
    have h4 := (h2.o ho3).only ho4 (fun k hk hm => hq (by
      obtain rfl : k = w.heap.size := by simpa using hm
      exact hk))
    have how4 : Only F w w4 := (how2.f0 ho3).nw ho4 (Nat.le_refl _)
    conv => whnf
    refine ⟨_, b64.pkAll hp3.ok, ?_⟩
    conv => whnf
    exact ⟨O, D, rfl, hp4.below how2.size, h4, how4⟩
  · have e1 : beginP s now l = zeroP := if_neg (by simp [e])
    have e2 : beginE s now l = 1 := if_neg (by simp [e])
    rw [e1, e2]
    conv => whnf
    refine vStore.all (cs := pkC zeroP (none, 0) (none, 0)) b62 (by kernel_rfl) (by kernel_rfl) (one_pkC _ _ _) (fun w4 b64 ho4 hz4 => ?_)
    have h4 := h2.only ho4 (fun k hk hm => hq (by
      obtain rfl : k = w.heap.size := by simpa using hm
      exact hk))
    have how4 : Only F w w4 := how2.nw ho4 (Nat.le_refl _)
    conv => whnf
    refine ⟨_, b64.pkAll (zeroP_ok w 0).ok, ?_⟩
    conv => whnf
    exact ⟨(none, 0), (none, 0), rfl, zeroP_ok _ _, h4, how4⟩

def qL (p : Pk) : List UInt8 := p.data.drop 8
def qN (p : Pk) : Nat := 4 * (((qL p).getD 0 0).toNat % 16)
def errKind (n : Nat) : Bool := decide (n = 3) || decide (n = 4) || decide (n = 5) || decide (n = 11) || decide (n = 12)
def quoted1 (p : Pk) : Bool := decide (p.proto = 1) && !decide (p.off > 0) && !p.more && decide (28 ≤ p.data.length)
def quoted2 (p : Pk) : Bool := decide (((qL p).getD 0 0).toNat / 16 = 4) && decide (20 ≤ qN p) && decide (qN p + 4 ≤ (qL p).length) && decide (((qL p).getD 9 0).toNat = 17) && decide (wordL (qL p) 6 % 8192 = 0)
def quotedB (p : Pk) : Bool := quoted1 p && errKind (p.data.getD 0 0).toNat && quoted2 p
/-- What quoted answers. -/
def Quo (w w' : World) (p : Pk) (B : Nat) (v : Value) : Prop :=
  (quotedB p = false ∧ v = .tuple ⟨[.agg ⟨quC none none 0 0 0 0⟩, .bool false]⟩) ∨
  (quotedB p = true ∧ ∃ X Y n c m d G, v = .tuple ⟨[.agg ⟨quC X Y n c m d⟩, .bool true]⟩ ∧ Bs w' G X n ((qL p).take (qN p)) ∧ Bs w' G Y m ((qL p).drop (qN p)) ∧ n ≤ c ∧ c ≤ 9223372036854775807 ∧ m ≤ 140737488355328 ∧ ∀ k ∈ G, B ≤ k)
theorem Sl.single {w : World} {size n b off : Nat} {G : List Nat} {xs : List Value} (h : Sl w size G (some ⟨b, off, none⟩) n xs) : Sl w size [b] (some ⟨b, off, none⟩) n xs := by
  refine ⟨h.1, fun hn => ?_⟩
  obtain ⟨b', off', e, hb, hb2, hc⟩ := h.2 hn
  injection e with e
  injection e with e1 e2
  subst e1
  subst e2
  exact ⟨_, _, rfl, by simp, hb2, hc⟩
theorem Sl.lt1 {w : World} {size n b off : Nat} {G : List Nat} {xs : List Value} (h : Sl w size G (some ⟨b, off, none⟩) n xs) (hn : 0 < n) : b < w.heap.size := by
  obtain ⟨b', off', e, hb, hb2, hc⟩ := h.2 hn
  injection e with e
  injection e with e1 e2
  subst e1
  exact hb2
theorem qN_e (p : Pk) : IntKind.i64.wrap (4 * IntKind.i64.wrap ((((qL p).getD 0 0).toNat : Int).tmod 16)) = ((qN p : Nat) : Int) := by
  show _ = ((4 * (((qL p).getD 0 0).toNat % 16) : Nat) : Int)
  have := u8_le ((qL p).getD 0 0)
  generalize ((qL p).getD 0 0).toNat = x at *
  rw [Int.tmod_eq_emod_of_nonneg (by omega), wi64, wi64]
  omega
theorem qN_le (p : Pk) : qN p ≤ 60 := by
  show 4 * (((qL p).getD 0 0).toNat % 16) ≤ 60
  omega
theorem qd_e (c : UInt8) : IntKind.u8.wrap ((c.toNat : Int).tdiv 16) = ((c.toNat / 16 : Nat) : Int) := by
  have := u8_le c
  generalize c.toNat = x at *
  rw [Int.tdiv_eq_ediv_of_nonneg (by omega), wr8]
  omega
theorem qp4_e {n : Nat} (h : n ≤ 60) : IntKind.i64.wrap (((n : Nat) : Int) + 4) = ((n + 4 : Nat) : Int) := by rw [wi64]; omega
theorem one_quC (X Y : Option Addr) (n c m d : Nat) : ∀ u ∈ quC X Y n c m d, isOne u = true := by
  intro u hu
  simp only [quC, List.mem_cons, List.not_mem_nil, or_false] at hu
  rcases hu with rfl | rfl <;> rfl
set_option maxRecDepth 100000 in
theorem quoted_does {w : World} {p : Pk} {O D : At} {B : Nat} (hp : Pks w p O D B) :
    Does Tryz.prog 56 [.agg ⟨pkC p O D⟩] w (fun v w' => Quo w w' p B v ∧ Only [] w w') := by
  have hA := (Only.alloc (Only.refl [] w) (.cells ⟨pkC p O D⟩ 56)).alloc (.cells ⟨quC none none 0 0 0 0⟩ 122)
  have b1 := (Blk.new w 56 ⟨pkC p O D⟩).alloc (.cells ⟨quC none none 0 0 0 0⟩ 122)
  have b2 := Blk.new (w.alloc (.cells ⟨pkC p O D⟩ 56)) 122 ⟨quC none none 0 0 0 0⟩
  have sz := World.size_alloc w (.cells ⟨pkC p O D⟩ 56)
  have q2 : w.heap.size ≤ (w.alloc (.cells ⟨pkC p O D⟩ 56)).heap.size := by omega
  refine Does.enter (fn := Tryz.f56) (by kernel_rfl) rfl (by kernel_rfl) (by kernel_rfl) ?_
  conv => whnf
  refine ⟨_, Loads.one (by kernel_rfl) (b1.pkProto hp.ok), ?_⟩
  refine splitB.abs fun N0 hN => ?_
  conv => whnf
  refine VIf.ne (fun h1 => ?_) (fun h1 => ?_)
  · conv => whnf
    refine hN _ _ ?_
    conv => whnf
    refine vStore.all (cs := quC none none 0 0 0 0) b2 (by kernel_rfl) rfl (one_quC _ _ _ _ _ _) (fun wz bz hoZ _ => ?_)
    conv => whnf
    refine ⟨_, Loads.all bz (by kernel_rfl) (by kernel_rfl), ?_⟩
    conv => whnf
    exact ⟨.inl ⟨by simp [quotedB, quoted1, h1], rfl⟩, (hA).nw hoZ q2⟩
  conv => whnf
  refine ⟨_, Loads.one (by kernel_rfl) (b1.pkOff hp.ok), ?_⟩
  conv => whnf
  refine VIf.dec (fun h2 => ?_) (fun h2 => ?_)
  · conv => whnf
    refine hN _ _ ?_
    conv => whnf
    refine vStore.all (cs := quC none none 0 0 0 0) b2 (by kernel_rfl) rfl (one_quC _ _ _ _ _ _) (fun wz bz hoZ _ => ?_)
    conv => whnf
    refine ⟨_, Loads.all bz (by kernel_rfl) (by kernel_rfl), ?_⟩
    conv => whnf
    exact ⟨.inl ⟨by simp [quotedB, quoted1, h2], rfl⟩, (hA).nw hoZ q2⟩
  conv => whnf
  refine ⟨_, Loads.one (by kernel_rfl) (b1.pkMore hp.ok), ?_⟩
  conv => whnf
  refine VIf.of (b := p.more) (fun h3 => ?_) (fun h3 => ?_)
  · conv => whnf
    refine hN _ _ ?_
    conv => whnf
    refine vStore.all (cs := quC none none 0 0 0 0) b2 (by kernel_rfl) rfl (one_quC _ _ _ _ _ _) (fun wz bz hoZ _ => ?_)
    conv => whnf
    refine ⟨_, Loads.all bz (by kernel_rfl) (by kernel_rfl), ?_⟩
    conv => whnf
    exact ⟨.inl ⟨by simp [quotedB, quoted1, h3], rfl⟩, (hA).nw hoZ q2⟩
  conv => whnf
  refine ⟨_, Loads.one (by kernel_rfl) (b1.pkData hp.ok), ?_⟩
  conv => whnf
  refine hN _ _ ?_
  conv => whnf
  refine VIf.dec (fun h4 => ?_) (fun h4 => ?_)
  · have h4 : (p.data.length : Int) < 28 := h4
    conv => whnf
    refine vStore.all (cs := quC none none 0 0 0 0) b2 (by kernel_rfl) rfl (one_quC _ _ _ _ _ _) (fun wz bz hoZ _ => ?_)
    conv => whnf
    refine ⟨_, Loads.all bz (by kernel_rfl) (by kernel_rfl), ?_⟩
    conv => whnf
    exact ⟨.inl ⟨by simp [quotedB, quoted1, show ¬ 28 ≤ p.data.length by omega], rfl⟩, (hA).nw hoZ q2⟩
  have h4 : ¬ (p.data.length : Int) < 28 := h4
  have g1 : quoted1 p = true := by simp [quoted1, h1, h2, h3]; omega
  have h28 : 28 ≤ p.data.length := by omega
  conv => whnf
  refine ⟨_, Loads.one (by kernel_rfl) (b1.pkData hp.ok), ?_⟩
  obtain ⟨GD, hGD, hGB⟩ := hp.data
  obtain ⟨bd, od, eD, hbd⟩ := hGD.some_ (by omega)
  have hbB := hGB bd hbd
  rw [eD]
  rw [eD] at hGD
  have hGD : Bs w [bd] (some ⟨bd, od, none⟩) p.data.length p.data := Sl.single hGD
  have hbw : bd < w.heap.size := Sl.lt1 hGD (by omega)
  have hGA := hGD.o hA
  conv => whnf
  refine ⟨_, _, rfl, 0, od + 0, rfl, by omega, p1 _ _, ?_⟩
  conv => whnf
  refine ⟨_, Loads.one (by kernel_rfl) (hGA.ld (getD_some (by omega))), ?_⟩
  conv => whnf
  refine VJoin.cut (α := Unit) [(30, 36)] (fun _ => [(30, .bool (errKind (p.data.getD 0 0).toNat))]) (fun _ w' => w' = (w.alloc (.cells ⟨pkC p O D⟩ 56)).alloc (.cells ⟨quC none none 0 0 0 0⟩ 122)) (by kernel_rfl) ?_ ?_
  · conv => whnf
    refine VIf.eq (fun k1 => ?_) (fun k1 => ?_)
    · conv => whnf
      exact ⟨(), ⟨congrArg Value.bool (by rw [show (p.data.getD 0 0).toNat = 3 from Int.ofNat_inj.1 k1]; rfl), trivial⟩, rfl⟩
    conv => whnf
    refine VIf.eq (fun k2 => ?_) (fun k2 => ?_)
    · conv => whnf
      exact ⟨(), ⟨congrArg Value.bool (by rw [show (p.data.getD 0 0).toNat = 4 from Int.ofNat_inj.1 k2]; rfl), trivial⟩, rfl⟩
    conv => whnf
    refine VIf.eq (fun k3 => ?_) (fun k3 => ?_)
    · conv => whnf
      exact ⟨(), ⟨congrArg Value.bool (by rw [show (p.data.getD 0 0).toNat = 5 from Int.ofNat_inj.1 k3]; rfl), trivial⟩, rfl⟩
    conv => whnf
    refine VIf.eq (fun k4 => ?_) (fun k4 => ?_)
    · conv => whnf
      exact ⟨(), ⟨congrArg Value.bool (by rw [show (p.data.getD 0 0).toNat = 11 from Int.ofNat_inj.1 k4]; rfl), trivial⟩, rfl⟩
    conv => whnf
    refine ⟨(), ⟨congrArg Value.bool ?_, trivial⟩, rfl⟩
    have k1 : ¬ ((p.data.getD 0 0).toNat : Int) = 3 := k1
    have k2 : ¬ ((p.data.getD 0 0).toNat : Int) = 4 := k2
    have k3 : ¬ ((p.data.getD 0 0).toNat : Int) = 5 := k3
    have k4 : ¬ ((p.data.getD 0 0).toNat : Int) = 11 := k4
    show (((p.data.getD 0 0).toNat : Int) == 12) = _
    generalize (p.data.getD 0 0).toNat = x at *
    rw [Bool.eq_iff_iff]
    simp [errKind]
    omega
  rintro _ wr j rfl
  conv => whnf
  refine VIf.of (b := errKind (p.data.getD 0 0).toNat) (fun h5 => ?_) (fun h5 => ?_)
  rotate_left
  · conv => whnf
    refine vStore.all (cs := quC none none 0 0 0 0) b2 (by kernel_rfl) rfl (one_quC _ _ _ _ _ _) (fun wz bz hoZ _ => ?_)
    conv => whnf
    refine ⟨_, Loads.all bz (by kernel_rfl) (by kernel_rfl), ?_⟩
    conv => whnf
    exact ⟨.inl ⟨by unfold quotedB; rw [h5]; simp, rfl⟩, (hA).nw hoZ q2⟩
  conv => whnf
  refine ⟨_, Loads.one (by kernel_rfl) (b1.pkData hp.ok), ?_⟩
  rw [eD]
  have hdc := hp.dc
  have hdl := hp.dl
  conv => whnf
  refine ⟨8, p.data.length, D.2, rfl, rfl, rfl, by omega, hdc.1, by omega, some ⟨bd, od + 8, none⟩, p.data.length - 8, D.2 - 8, ?_, rfl, rfl, ?_⟩
  · rw [if_neg (by omega)]
    show some _ = some (Addr.add ⟨bd, od, none⟩ (8 * 1))
    rw [add_plain]
  have hQ : Bs ((w.alloc (.cells ⟨pkC p O D⟩ 56)).alloc (.cells ⟨quC none none 0 0 0 0⟩ 122)) [bd] (some ⟨bd, od + 8, none⟩) (p.data.length - 8) (qL p) := by
    have := hGA.cut (lo := 8) (hi := p.data.length) (m := D.2) (A' := some ⟨bd, od + 8, none⟩) (by omega) hdc.1 (Nat.le_refl _) (by
      rw [if_neg (by omega)]
      show some _ = some (Addr.add ⟨bd, od, none⟩ (8 * 1))
      rw [add_plain])
    rwa [List.take_of_length_le (by rw [List.length_drop]; omega)] at this
  have hql : (qL p).length = p.data.length - 8 := by simp [qL]
  conv => whnf
  refine ⟨_, _, rfl, 0, od + 8 + 0, rfl, by omega, p1 _ _, ?_⟩
  conv => whnf
  refine ⟨_, Loads.one (by kernel_rfl) (hQ.ld (getD_some (by omega))), ?_⟩
  have hx0 : ((qL p).getD 0 0).toNat ≤ 255 := by have := u8_le ((qL p).getD 0 0); omega
  have hn0 := qN_e p
  have hn60 := qN_le p
  conv => whnf
  rw [hn0]
  refine ⟨_, _, rfl, 0, od + 8 + 0, rfl, by omega, p1 _ _, ?_⟩
  conv => whnf
  refine ⟨_, Loads.one (by kernel_rfl) (hQ.ld (getD_some (by omega))), ?_⟩
  refine splitB.abs fun N0 hN => ?_
  have hd0 := qd_e ((qL p).getD 0 0)
  conv => whnf
  rw [hd0]
  refine VIf.ne (fun h6 => ?_) (fun h6 => ?_)
  · conv => whnf
    refine hN _ _ ?_
    conv => whnf
    refine vStore.all (cs := quC none none 0 0 0 0) b2 (by kernel_rfl) rfl (one_quC _ _ _ _ _ _) (fun wz bz hoZ _ => ?_)
    conv => whnf
    refine ⟨_, Loads.all bz (by kernel_rfl) (by kernel_rfl), ?_⟩
    conv => whnf
    exact ⟨.inl ⟨by simp only [quotedB, quoted2]; rw [show decide (((qL p).getD 0 0).toNat / 16 = 4) = false from decide_eq_false (by omega)]; simp, rfl⟩, (hA).nw hoZ q2⟩
  conv => whnf
  refine VIf.dec (fun h7 => ?_) (fun h7 => ?_)
  · have h7 : ((qN p : Nat) : Int) < 20 := h7
    conv => whnf
    refine hN _ _ ?_
    conv => whnf
    refine vStore.all (cs := quC none none 0 0 0 0) b2 (by kernel_rfl) rfl (one_quC _ _ _ _ _ _) (fun wz bz hoZ _ => ?_)
    conv => whnf
    refine ⟨_, Loads.all bz (by kernel_rfl) (by kernel_rfl), ?_⟩
    conv => whnf
    exact ⟨.inl ⟨by simp only [quotedB, quoted2]; rw [show decide (20 ≤ qN p) = false from decide_eq_false (by omega)]; simp, rfl⟩, (hA).nw hoZ q2⟩
  have h7 : ¬ ((qN p : Nat) : Int) < 20 := h7
  have e8 := qp4_e hn60
  conv => whnf
  rw [e8]
  refine VIf.dec (fun h8 => ?_) (fun h8 => ?_)
  · have h8 : ((p.data.length - 8 : Nat) : Int) < ((qN p + 4 : Nat) : Int) := h8
    conv => whnf
    refine hN _ _ ?_
    conv => whnf
    refine vStore.all (cs := quC none none 0 0 0 0) b2 (by kernel_rfl) rfl (one_quC _ _ _ _ _ _) (fun wz bz hoZ _ => ?_)
    conv => whnf
    refine ⟨_, Loads.all bz (by kernel_rfl) (by kernel_rfl), ?_⟩
    conv => whnf
    exact ⟨.inl ⟨by simp only [quotedB, quoted2]; rw [show decide (qN p + 4 ≤ (qL p).length) = false from decide_eq_false (by omega)]; simp, rfl⟩, (hA).nw hoZ q2⟩
  have h8 : ¬ ((p.data.length - 8 : Nat) : Int) < ((qN p + 4 : Nat) : Int) := h8
  conv => whnf
  refine ⟨_, _, rfl, 9, od + 8 + 9, rfl, by omega, p1 _ _, ?_⟩
  conv => whnf
  refine ⟨_, Loads.one (by kernel_rfl) (hQ.ld (getD_some (by omega))), ?_⟩
  conv => whnf
  refine VIf.ne (fun h9 => ?_) (fun h9 => ?_)
  · have h9 : (((qL p).getD 9 0).toNat : Int) ≠ 17 := h9
    conv => whnf
    refine hN _ _ ?_
    conv => whnf
    refine vStore.all (cs := quC none none 0 0 0 0) b2 (by kernel_rfl) rfl (one_quC _ _ _ _ _ _) (fun wz bz hoZ _ => ?_)
    conv => whnf
    refine ⟨_, Loads.all bz (by kernel_rfl) (by kernel_rfl), ?_⟩
    conv => whnf
    exact ⟨.inl ⟨by simp only [quotedB, quoted2]; rw [show decide (((qL p).getD 9 0).toNat = 17) = false from decide_eq_false (by omega)]; simp, rfl⟩, (hA).nw hoZ q2⟩
  have h9 : (((qL p).getD 9 0).toNat : Int) = 17 := h9
  conv => whnf
  refine (word_does (k := 6) hQ (by omega) (by omega)).mono ?_
  rintro v w3 ⟨rfl, ho3⟩
  conv => whnf
  refine hN _ _ ?_
  have b23 := b2.only ho3 (by simp)
  have hw3 := hA.t0 ho3
  conv => whnf
  refine VIf.ne (fun h10 => ?_) (fun h10 => ?_)
  · have h10 : (wordL (qL p) 6).tmod 8192 ≠ 0 := h10
    rw [Int.tmod_eq_emod_of_nonneg (wordL_bd _ _).1] at h10
    conv => whnf
    refine vStore.all (cs := quC none none 0 0 0 0) b23 (by kernel_rfl) rfl (one_quC _ _ _ _ _ _) (fun wz bz hoZ _ => ?_)
    conv => whnf
    refine ⟨_, Loads.all bz (by kernel_rfl) (by kernel_rfl), ?_⟩
    conv => whnf
    exact ⟨.inl ⟨by simp only [quotedB, quoted2]; rw [show decide (wordL (qL p) 6 % 8192 = 0) = false from decide_eq_false h10]; simp, rfl⟩, (hw3).nw hoZ q2⟩
  have h10 : (wordL (qL p) 6).tmod 8192 = 0 := h10
  rw [Int.tmod_eq_emod_of_nonneg (wordL_bd _ _).1] at h10
  have hyes : quotedB p = true := by
    unfold quotedB quoted2
    rw [g1, h5, decide_eq_true (show ((qL p).getD 0 0).toNat / 16 = 4 by omega), decide_eq_true (show 20 ≤ qN p by omega), decide_eq_true (show qN p + 4 ≤ (qL p).length by omega), decide_eq_true (show ((qL p).getD 9 0).toNat = 17 by omega), decide_eq_true h10]
    rfl
  have hQ3 := hQ.o ho3
  conv => whnf
  refine VDraw.abs fun N2 hN2 => ?_
  refine VDraw.tail 7 (by kernel_rfl) (by kernel_rfl) ?_
  conv => whnf
  refine ⟨0, qN p, D.2 - 8, rfl, rfl, rfl, by omega, by omega, by omega, some ⟨bd, od + 8, none⟩, qN p, D.2 - 8, ?_, rfl, rfl, ?_⟩
  · rw [if_neg (by omega)]
    show some _ = some (Addr.add ⟨bd, od + 8, none⟩ (0 * 1))
    rw [add_plain]
  conv => whnf
  refine ⟨qN p, p.data.length - 8, D.2 - 8, rfl, rfl, rfl, by omega, by omega, by omega, some ⟨bd, od + 8 + qN p * 1, none⟩, p.data.length - 8 - qN p, D.2 - 8 - qN p, ?_, rfl, rfl, ?_⟩
  · rw [if_neg (by omega)]
    show some _ = some (Addr.add ⟨bd, od + 8, none⟩ (qN p * 1))
    rw [add_plain]
  conv => whnf
  refine vStore.all (cs := quC (some ⟨bd, od + 8, none⟩) (some ⟨bd, od + 8 + qN p * 1, none⟩) (qN p) (D.2 - 8) (p.data.length - 8 - qN p) (D.2 - 8 - qN p)) b23.drew (by kernel_rfl) rfl (one_quC _ _ _ _ _ _) (fun w4 b4 ho4 _ => ?_)
  have hQ4 : Bs w4 [bd] (some ⟨bd, od + 8, none⟩) (p.data.length - 8) (qL p) := (Bs.only (w' := w3.drew) hQ3 ((Only.refl [] w3).drew) (by simp)).only ho4 (by simp; omega)
  conv => whnf
  refine hN2 _ _ ?_
  conv => whnf
  refine ⟨_, Loads.all b4 (by kernel_rfl) (by kernel_rfl), ?_⟩
  conv => whnf
  refine ⟨.inr ⟨hyes, _, _, _, _, _, _, [bd], rfl, ?_, ?_, by omega, by omega, by omega, by simpa using hbB⟩, hw3.drew.nw ho4 q2⟩
  · have := hQ4.cut (lo := 0) (hi := qN p) (m := D.2 - 8) (A' := some ⟨bd, od + 8, none⟩) (by omega) (by omega) (by omega) (by
      rw [if_neg (by omega)]
      show some _ = some (Addr.add ⟨bd, od + 8, none⟩ (0 * 1))
      rw [add_plain])
    rwa [List.drop_zero, Nat.sub_zero] at this
  · have := hQ4.cut (lo := qN p) (hi := p.data.length - 8) (m := D.2 - 8) (A' := some ⟨bd, od + 8 + qN p * 1, none⟩) (by omega) (by omega) (by omega) (by
      rw [if_neg (by omega)]
      show some _ = some (Addr.add ⟨bd, od + 8, none⟩ (qN p * 1))
      rw [add_plain])
    rwa [List.take_of_length_le (by rw [List.length_drop]; omega)] at this
end Go.Proofs.YtofomopdaponbaaGreatDoor
