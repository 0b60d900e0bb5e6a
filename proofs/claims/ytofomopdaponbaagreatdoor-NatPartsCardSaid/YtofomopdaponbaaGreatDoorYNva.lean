/-
  Does udp take a packet's datagram? (the laws' helper valid)
-/
import Derived.Test.YtofomopdaponbaaGreatDoorYNud
namespace Go.Proofs.YtofomopdaponbaaGreatDoor
open Go.RowKit
set_option linter.unusedVariables false
set_option linter.unusedSimpArgs false

def validB (l : List UInt8) : Bool := decide (parseE l = 0) && decide (udpE (parseP l).src (parseP l).dst (parseP l).data = 0)
def validD (l : List UInt8) : Dg := if parseE l = 0 then udpP (parseP l).src (parseP l).dst (parseP l).data else zeroD
theorem Dgs.o {w w' : World} {d : Dg} {D : At} {B : Nat} (h : Dgs w d D B) (ho : Only [] w w') : Dgs w' d D B := by
  obtain ⟨⟨G, h1, h2⟩, h3, h4⟩ := h
  exact ⟨⟨G, h1.o ho, fun k hk => ⟨(h2 k hk).1, Nat.lt_of_lt_of_le (h2 k hk).2 ho.size⟩⟩, h3, h4⟩
theorem Dgs.below {w : World} {d : Dg} {D : At} {B B' : Nat} (h : Dgs w d D B) (hB : B' ≤ B) : Dgs w d D B' := by
  obtain ⟨⟨G, h1, h2⟩, h3, h4⟩ := h
  exact ⟨⟨G, h1, fun k hk => ⟨Nat.le_trans hB (h2 k hk).1, (h2 k hk).2⟩⟩, h3, h4⟩
theorem Dgs.far {w w' : World} {d : Dg} {D : At} {B q : Nat} (h : Dgs w d D B) (ho : Only [q] w w') (hq : q < B) : Dgs w' d D B := by
  obtain ⟨⟨G, h1, h2⟩, h3, h4⟩ := h
  exact ⟨⟨G, h1.only ho (fun k hk hm => by
    have := (h2 k hk).1
    have : k = q := by simpa using hm
    omega), fun k hk => ⟨(h2 k hk).1, Nat.lt_of_lt_of_le (h2 k hk).2 ho.size⟩⟩, h3, h4⟩
theorem zeroD_dgs (w : World) (B : Nat) : Dgs w zeroD (none, 0) B := ⟨⟨[], Sl.nil _ _ _ _, by simp⟩, by decide, by decide⟩
def validR (w w' : World) (l : List UInt8) (v : Value) : Prop := ∃ O D D2, v = .tuple ⟨[.agg ⟨pkC (parseP l) O D⟩, .agg ⟨dgC (validD l) D2⟩, .bool (validB l)]⟩ ∧ Pks w' (parseP l) O D w.heap.size ∧ Dgs w' (validD l) D2 w.heap.size ∧ Only [] w w'
set_option maxRecDepth 100000 in
theorem valid_law {w : World} {G : List Nat} {A : Option Addr} {n c : Nat} {l : List UInt8} (hl : Bs w G A n l) (hs : Shp w) (hn : n ≤ 140737488355328) :
    Does Tryz.prog 23 [.slice A n c] w (fun v w' => validR w w' l v) := by
  have hA := (Only.alloc (Only.refl [] w) (.cells ⟨pkC zeroP (none, 0) (none, 0)⟩ 56)).alloc (.cells ⟨dgC zeroD (none, 0)⟩ 61)
  have b2 := (Blk.new w 56 ⟨pkC zeroP (none, 0) (none, 0)⟩).alloc (.cells ⟨dgC zeroD (none, 0)⟩ 61)
  have b3 := Blk.new (w.alloc (.cells ⟨pkC zeroP (none, 0) (none, 0)⟩ 56)) 61 ⟨dgC zeroD (none, 0)⟩
  have z1 := World.size_alloc w (.cells ⟨pkC zeroP (none, 0) (none, 0)⟩ 56)
  have hq3w : w.heap.size ≤ (w.alloc (.cells ⟨pkC zeroP (none, 0) (none, 0)⟩ 56)).heap.size := by omega
  have hfin : ∀ (wy : World) (O D D2 : At), Pks wy (parseP l) O D ((w.alloc (.cells ⟨pkC zeroP (none, 0) (none, 0)⟩ 56)).heap.size + 1) → Dgs wy (validD l) D2 ((w.alloc (.cells ⟨pkC zeroP (none, 0) (none, 0)⟩ 56)).heap.size + 1) → Only [] w wy → Blk wy w.heap.size 56 ⟨pkC (parseP l) O D⟩ → Blk wy (w.alloc (.cells ⟨pkC zeroP (none, 0) (none, 0)⟩ 56)).heap.size 61 ⟨dgC (validD l) D2⟩ → validR w wy l (.tuple ⟨[.agg ⟨pkC (parseP l) O D⟩, .agg ⟨dgC (validD l) D2⟩, .bool (validB l)]⟩) := fun wy O D D2 h1 h2 h3 _ _ => ⟨O, D, D2, rfl, h1.below (by omega), h2.below (by omega), h3⟩
  refine Does.enter (fn := Tryz.f23) (by kernel_rfl) rfl (by kernel_rfl) (by kernel_rfl) ?_
  conv => whnf
  refine (own_does (hl.o hA) hn).mono ?_
  rintro v wo ⟨X, nX, cX, FX, rfl, hrX, hoX, hFX⟩
  obtain rfl := (Row.bs hrX).len
  have hwo := hA.t0 hoX
  have hcX : l.length ≤ cX ∧ cX ≤ 9223372036854775807 := by have h1 := hrX.le; have h2 := hrX.le.2; unfold maxLen at h2; exact ⟨h1.1, h2⟩
  have hll := hl.len
  conv => whnf
  refine (parse_does (Row.bs hrX) (hs.o hwo) (by omega) hcX.1 hcX.2).mono ?_
  rintro v wp ⟨O, D, rfl, hp, hop⟩
  have hwp := hwo.t0 hop
  have hpl := pk_len (O := O) (D := D) hp.ok
  conv => whnf
  refine vStore.fresh (cs := pkC (parseP l) O D) (by rw [hpl]; kernel_rfl) (by rw [hpl]; kernel_rfl) (one_pkC _ _ _) (fun w5 b5 ho5 hz5 => ?_)
  have hw5 := hwp.t0 ho5
  have b25 := ((b2.only hoX (by simp)).only hop (by simp)).only ho5 (by simp)
  have b35 := ((b3.only hoX (by simp)).only hop (by simp)).only ho5 (by simp)
  have hp5 := hp.o ho5
  have zwo : (w.alloc (.cells ⟨pkC zeroP (none, 0) (none, 0)⟩ 56)).heap.size + 1 ≤ wo.heap.size := b3.only hoX (by simp) |>.lt
  have zwp : wo.heap.size ≤ wp.heap.size := hop.size
  conv => whnf
  refine VIf.ne (fun he => ?_) (fun he => ?_)
  · have hP : parseP l = zeroP := if_neg he
    have hD : validD l = zeroD := if_neg he
    have hB : validB l = false := by unfold validB; rw [decide_eq_false he]; rfl
    conv => whnf
    refine ⟨_, b5.pkAll hp.ok, ?_⟩
    conv => whnf
    refine vStore.all (cs := pkC (parseP l) O D) b25 (by rw [hpl]; kernel_rfl) (by rw [hpl]; kernel_rfl) (one_pkC _ _ _) (fun w6 b26 ho6 _ => ?_)
    have b36 := b35.only ho6 (fun hm => by have h3 : (w.alloc (.cells ⟨pkC zeroP (none, 0) (none, 0)⟩ 56)).heap.size = w.heap.size := List.mem_singleton.1 hm; omega)
    conv => whnf
    refine vStore.all (cs := dgC zeroD (none, 0)) b36 (by kernel_rfl) (by kernel_rfl) (one_dgC _ _) (fun w7 b37 ho7 _ => ?_)
    have b27 := b26.only ho7 (fun hm => by have h3 : w.heap.size = (w.alloc (.cells ⟨pkC zeroP (none, 0) (none, 0)⟩ 56)).heap.size := List.mem_singleton.1 hm; omega)
    conv => whnf
    refine ⟨_, b27.pkAll hp.ok, ?_⟩
    conv => whnf
    refine ⟨_, Loads.all b37 (by kernel_rfl) (by kernel_rfl), ?_⟩
    conv => whnf
    have hp7 := (hp5.far ho6 (show w.heap.size < wo.heap.size by omega)).far ho7 (show (w.alloc (.cells ⟨pkC zeroP (none, 0) (none, 0)⟩ 56)).heap.size < wo.heap.size by omega)
    have := hfin w7 O D (none, 0) (hp7.below zwo) (by rw [hD]; exact zeroD_dgs _ _) ((hw5.nw ho6 (Nat.le_refl _)).nw ho7 hq3w) b27 (by rw [hD]; exact b37)
    rw [hD, hB] at this
    exact this
  have he : parseE l = 0 := he
  obtain ⟨GD, hGD, hGB⟩ := hp5.data
  have hdl := hp5.dl
  conv => whnf
  refine VDraw.abs fun N0 hN => ?_
  refine VDraw.tree 11 (fun w' => Blk w' wp.heap.size 56 ⟨pkC (parseP l) O D⟩) (fun _ => True) (.one 0 (.one 1 (.one 2 (.one 3 (.one 4 (.one 5 (.two 6 (.two 7 (.one 8 (.one 9 (.one 10 (.one 11 (.one 12 (.one 13 .done)))))) 11 (.one 7 (.one 8 (.one 9 (.one 10 (.one 12 (.one 13 .done))))))) 11 (.one 6 (.one 7 (.one 8 (.one 9 (.one 10 (.one 12 (.one 13 .done)))))))))))))) (by kernel_rfl) (by kernel_rfl) b5.drew trivial ?_
  conv => whnf
  refine ⟨_, fun w' hw' => Blk.pkSrc hw' hp.ok, ?_⟩
  conv => whnf
  refine ⟨_, fun w' hw' => Blk.pkDst hw' hp.ok, ?_⟩
  conv => whnf
  refine ⟨_, fun w' hw' => Loads.one (by kernel_rfl) (Blk.pkData hw' hp.ok), ?_⟩
  conv => whnf
  refine ⟨?_, ?_⟩
  · conv => whnf
    refine (own_does (hGD.o ((Only.refl [] w5).drew)) hdl).mono ?_
    rintro v wq ⟨Y, nY, cY, FY, rfl, hrY, hoY, hFY⟩
    obtain rfl := (Row.bs hrY).len
    have how_q : Only [] w5 wq := (((Only.refl [] w5).drew)).t0 hoY
    refine ⟨⟨b5.only how_q (by simp), fun _ => trivial⟩, ?_⟩
    conv => whnf
    refine ⟨?_, ?_⟩
    · conv => whnf
      refine (udpParse_does hp.ok.src hp.ok.dst ((Row.bs hrY).o (Only.refl [] wq)) hdl hrY.le.1 (by have h2 := hrY.le.2; unfold maxLen at h2; exact h2)).mono ?_
      rintro v wu ⟨D2, rfl, hd2, hou⟩
      have how_u : Only [] w5 wu := (how_q).t0 hou
      refine ⟨⟨b5.only how_u (by simp), fun _ => trivial⟩, ?_⟩
      conv => whnf
      refine ⟨⟨(b5.only how_u (by simp)).alloc _, fun _ => trivial⟩, ?_⟩
      conv => whnf
      refine vStore.fresh (cs := dgC (udpP (parseP l).src (parseP l).dst (parseP l).data) D2) (by kernel_rfl) (by kernel_rfl) (one_dgC _ _) (fun wz b7z hozz _ => ?_)
      have hoZ : Only [] w5 wz := how_u.t0 hozz
      refine ⟨⟨b5.only hoZ (by simp), fun _ => trivial⟩, ?_⟩
      conv => whnf
      have zq : w5.heap.size ≤ wq.heap.size := how_q.size
      have zu : wq.heap.size ≤ wu.heap.size := hou.size
      have z55 : wo.heap.size ≤ w5.heap.size := Nat.le_trans zwp ho5.size
      have hd3 := (hd2.o hozz)
      have how_z := hoZ
      have b2z := b25.only how_z (by simp)
      have b3z := b35.only how_z (by simp)
      have b5z := b5.only how_z (by simp)
      have hpz := hp5.o how_z
      refine hN _ _ ?_
      conv => whnf
      refine VDraw.abs fun N1 hN1 => ?_
      have q7b : (w.alloc (.cells ⟨pkC zeroP (none, 0) (none, 0)⟩ 56)).heap.size < wu.heap.size := by omega
      refine VDraw.held (fun w' => Blk w' wp.heap.size 56 ⟨pkC (parseP l) O D⟩ ∧ Blk w' wu.heap.size 61 ⟨dgC (udpP (parseP l).src (parseP l).dst (parseP l).data) D2⟩) [0, 1, 2, 3, 4, 5, 6] (by kernel_rfl) (by kernel_rfl) ⟨b5z.drew, b7z.drew⟩ ?_
      conv => whnf
      refine ⟨_, fun w' hw' => Blk.pkAll hw'.1 hp.ok, ?_⟩
      conv => whnf
      refine ⟨_, fun w' hw' => Loads.all hw'.2 (by kernel_rfl) (by kernel_rfl), ?_⟩
      conv => whnf
      refine vStore.all (cs := pkC (parseP l) O D) b2z.drew (by rw [hpl]; kernel_rfl) (by rw [hpl]; kernel_rfl) (one_pkC _ _ _) (fun wx b2x hox _ => ?_)
      have b5x := b5z.drew.only hox (fun hm => by have h3 : wp.heap.size = w.heap.size := List.mem_singleton.1 hm; omega)
      have b7x := b7z.drew.only hox (fun hm => by have h3 : wu.heap.size = w.heap.size := List.mem_singleton.1 hm; omega)
      refine ⟨⟨b5x, b7x⟩, ?_⟩
      have b3x := b3z.drew.only hox (fun hm => by have h3 : (w.alloc (.cells ⟨pkC zeroP (none, 0) (none, 0)⟩ 56)).heap.size = w.heap.size := List.mem_singleton.1 hm; omega)
      conv => whnf
      refine vStore.all (cs := dgC (udpP (parseP l).src (parseP l).dst (parseP l).data) D2) b3x (by kernel_rfl) (by kernel_rfl) (one_dgC _ _) (fun wy b3y hoy _ => ?_)
      refine ⟨⟨b5x.only hoy (fun hm => by have h3 : wp.heap.size = (w.alloc (.cells ⟨pkC zeroP (none, 0) (none, 0)⟩ 56)).heap.size := List.mem_singleton.1 hm; omega), b7x.only hoy (fun hm => by have h3 : wu.heap.size = (w.alloc (.cells ⟨pkC zeroP (none, 0) (none, 0)⟩ 56)).heap.size := List.mem_singleton.1 hm; omega)⟩, ?_⟩
      have b2y := b2x.only hoy (fun hm => by have h3 : w.heap.size = (w.alloc (.cells ⟨pkC zeroP (none, 0) (none, 0)⟩ 56)).heap.size := List.mem_singleton.1 hm; omega)
      refine hN1 _ _ ?_
      conv => whnf
      refine ⟨_, b2y.pkAll hp.ok, ?_⟩
      conv => whnf
      refine ⟨_, Loads.all b3y (by kernel_rfl) (by kernel_rfl), ?_⟩
      conv => whnf
      have hD : validD l = udpP (parseP l).src (parseP l).dst (parseP l).data := if_pos he
      have hB : validB l = (udpE (parseP l).src (parseP l).dst (parseP l).data == 0) := by
        unfold validB
        rw [decide_eq_true he]
        rfl
      have z5 : wo.heap.size ≤ w5.heap.size := Nat.le_trans zwp ho5.size
      have hpy := ((hpz.o ((Only.refl [] _).drew)).far hox (show w.heap.size < wo.heap.size by omega)).far hoy (show (w.alloc (.cells ⟨pkC zeroP (none, 0) (none, 0)⟩ 56)).heap.size < wo.heap.size by omega)
      have hdy := ((hd3.o ((Only.refl [] _).drew)).far hox (show w.heap.size < wq.heap.size by omega)).far hoy (show (w.alloc (.cells ⟨pkC zeroP (none, 0) (none, 0)⟩ 56)).heap.size < wq.heap.size by omega)
      have := hfin wy O D D2 (hpy.below zwo) (by rw [hD]; exact hdy.below (by omega)) ((((hw5.t0 how_z).drew).nw hox (Nat.le_refl _)).nw hoy hq3w) b2y (by rw [hD]; exact b3y)
      rw [hD, hB] at this
      exact this
    · conv => whnf
      have hal := (Only.refl [] wq).alloc (.cells ⟨dgC zeroD (none, 0)⟩ 61)
      have b7 := Blk.new wq 61 ⟨dgC zeroD (none, 0)⟩
      refine ⟨⟨(b5.only how_q (by simp)).alloc _, fun _ => trivial⟩, ?_⟩
      conv => whnf
      refine (udpParse_does hp.ok.src hp.ok.dst ((Row.bs hrY).o hal) hdl hrY.le.1 (by have h2 := hrY.le.2; unfold maxLen at h2; exact h2)).mono ?_
      rintro v wu ⟨D2, rfl, hd2, hou⟩
      have how_u : Only [] w5 wu := (how_q.t0 hal).t0 hou
      refine ⟨⟨b5.only how_u (by simp), fun _ => trivial⟩, ?_⟩
      conv => whnf
      have b7u := b7.only hou (by simp)
      refine vStore.all (cs := dgC (udpP (parseP l).src (parseP l).dst (parseP l).data) D2) b7u (by kernel_rfl) (by kernel_rfl) (one_dgC _ _) (fun wz b7z hozz _ => ?_)
      have hoZ : Only [] w5 wz := how_u.nw hozz how_q.size
      refine ⟨⟨b5.only hoZ (by simp), fun _ => trivial⟩, ?_⟩
      conv => whnf
      have zq : w5.heap.size ≤ wq.heap.size := how_q.size
      have z55 : wo.heap.size ≤ w5.heap.size := Nat.le_trans zwp ho5.size
      have zal : (wq.alloc (.cells ⟨dgC zeroD (none, 0)⟩ 61)).heap.size = wq.heap.size + 1 := World.size_alloc _ _
      have hd3 := hd2.far hozz (by omega)
      have how_z := hoZ
      have b2z := b25.only how_z (by simp)
      have b3z := b35.only how_z (by simp)
      have b5z := b5.only how_z (by simp)
      have hpz := hp5.o how_z
      refine hN _ _ ?_
      conv => whnf
      refine VDraw.abs fun N1 hN1 => ?_
      have q7b : (w.alloc (.cells ⟨pkC zeroP (none, 0) (none, 0)⟩ 56)).heap.size < wq.heap.size := by omega
      refine VDraw.held (fun w' => Blk w' wp.heap.size 56 ⟨pkC (parseP l) O D⟩ ∧ Blk w' wq.heap.size 61 ⟨dgC (udpP (parseP l).src (parseP l).dst (parseP l).data) D2⟩) [0, 1, 2, 3, 4, 5, 6] (by kernel_rfl) (by kernel_rfl) ⟨b5z.drew, b7z.drew⟩ ?_
      conv => whnf
      refine ⟨_, fun w' hw' => Blk.pkAll hw'.1 hp.ok, ?_⟩
      conv => whnf
      refine ⟨_, fun w' hw' => Loads.all hw'.2 (by kernel_rfl) (by kernel_rfl), ?_⟩
      conv => whnf
      refine vStore.all (cs := pkC (parseP l) O D) b2z.drew (by rw [hpl]; kernel_rfl) (by rw [hpl]; kernel_rfl) (one_pkC _ _ _) (fun wx b2x hox _ => ?_)
      have b5x := b5z.drew.only hox (fun hm => by have h3 : wp.heap.size = w.heap.size := List.mem_singleton.1 hm; omega)
      have b7x := b7z.drew.only hox (fun hm => by have h3 : wq.heap.size = w.heap.size := List.mem_singleton.1 hm; omega)
      refine ⟨⟨b5x, b7x⟩, ?_⟩
      have b3x := b3z.drew.only hox (fun hm => by have h3 : (w.alloc (.cells ⟨pkC zeroP (none, 0) (none, 0)⟩ 56)).heap.size = w.heap.size := List.mem_singleton.1 hm; omega)
      conv => whnf
      refine vStore.all (cs := dgC (udpP (parseP l).src (parseP l).dst (parseP l).data) D2) b3x (by kernel_rfl) (by kernel_rfl) (one_dgC _ _) (fun wy b3y hoy _ => ?_)
      refine ⟨⟨b5x.only hoy (fun hm => by have h3 : wp.heap.size = (w.alloc (.cells ⟨pkC zeroP (none, 0) (none, 0)⟩ 56)).heap.size := List.mem_singleton.1 hm; omega), b7x.only hoy (fun hm => by have h3 : wq.heap.size = (w.alloc (.cells ⟨pkC zeroP (none, 0) (none, 0)⟩ 56)).heap.size := List.mem_singleton.1 hm; omega)⟩, ?_⟩
      have b2y := b2x.only hoy (fun hm => by have h3 : w.heap.size = (w.alloc (.cells ⟨pkC zeroP (none, 0) (none, 0)⟩ 56)).heap.size := List.mem_singleton.1 hm; omega)
      refine hN1 _ _ ?_
      conv => whnf
      refine ⟨_, b2y.pkAll hp.ok, ?_⟩
      conv => whnf
      refine ⟨_, Loads.all b3y (by kernel_rfl) (by kernel_rfl), ?_⟩
      conv => whnf
      have hD : validD l = udpP (parseP l).src (parseP l).dst (parseP l).data := if_pos he
      have hB : validB l = (udpE (parseP l).src (parseP l).dst (parseP l).data == 0) := by
        unfold validB
        rw [decide_eq_true he]
        rfl
      have z5 : wo.heap.size ≤ w5.heap.size := Nat.le_trans zwp ho5.size
      have hpy := ((hpz.o ((Only.refl [] _).drew)).far hox (show w.heap.size < wo.heap.size by omega)).far hoy (show (w.alloc (.cells ⟨pkC zeroP (none, 0) (none, 0)⟩ 56)).heap.size < wo.heap.size by omega)
      have hdy := ((hd3.o ((Only.refl [] _).drew)).far hox (show w.heap.size < (wq.alloc (.cells ⟨dgC zeroD (none, 0)⟩ 61)).heap.size by omega)).far hoy (show (w.alloc (.cells ⟨pkC zeroP (none, 0) (none, 0)⟩ 56)).heap.size < (wq.alloc (.cells ⟨dgC zeroD (none, 0)⟩ 61)).heap.size by omega)
      have := hfin wy O D D2 (hpy.below zwo) (by rw [hD]; exact hdy.below (by omega)) ((((hw5.t0 how_z).drew).nw hox (Nat.le_refl _)).nw hoy hq3w) b2y (by rw [hD]; exact b3y)
      rw [hD, hB] at this
      exact this
  · conv => whnf
    have hal := ((Only.refl [] w5).drew).alloc (.cells ⟨dgC zeroD (none, 0)⟩ 61)
    have b7 := Blk.new w5.drew 61 ⟨dgC zeroD (none, 0)⟩
    refine ⟨⟨b5.drew.alloc _, fun _ => trivial⟩, ?_⟩
    conv => whnf
    refine (own_does (hGD.o hal) hdl).mono ?_
    rintro v wq ⟨Y, nY, cY, FY, rfl, hrY, hoY, hFY⟩
    obtain rfl := (Row.bs hrY).len
    have how_q : Only [] w5 wq := (hal).t0 hoY
    refine ⟨⟨b5.only how_q (by simp), fun _ => trivial⟩, ?_⟩
    conv => whnf
    refine (udpParse_does hp.ok.src hp.ok.dst ((Row.bs hrY).o (Only.refl [] wq)) hdl hrY.le.1 (by have h2 := hrY.le.2; unfold maxLen at h2; exact h2)).mono ?_
    rintro v wu ⟨D2, rfl, hd2, hou⟩
    have how_u : Only [] w5 wu := (how_q).t0 hou
    refine ⟨⟨b5.only how_u (by simp), fun _ => trivial⟩, ?_⟩
    conv => whnf
    have b7u := (b7.only hoY (by simp)).only hou (by simp)
    have z55 : wo.heap.size ≤ w5.heap.size := Nat.le_trans zwp ho5.size
    have zal : (w5.drew.alloc (.cells ⟨dgC zeroD (none, 0)⟩ 61)).heap.size = w5.heap.size + 1 := World.size_alloc _ _
    have zY := hoY.size
    refine vStore.all (cs := dgC (udpP (parseP l).src (parseP l).dst (parseP l).data) D2) b7u (by kernel_rfl) (by kernel_rfl) (one_dgC _ _) (fun wz b7z hozz _ => ?_)
    have hoZ : Only [] w5 wz := how_u.nw hozz (Nat.le_refl _)
    refine ⟨⟨b5.only hoZ (by simp), fun _ => trivial⟩, ?_⟩
    conv => whnf
    have zq : w5.heap.size ≤ wq.heap.size := how_q.size
    have hd3 := hd2.far hozz (by show w5.heap.size < wq.heap.size; omega)
    have how_z := hoZ
    have b2z := b25.only how_z (by simp)
    have b3z := b35.only how_z (by simp)
    have b5z := b5.only how_z (by simp)
    have hpz := hp5.o how_z
    refine hN _ _ ?_
    conv => whnf
    refine VDraw.abs fun N1 hN1 => ?_
    have q7b : (w.alloc (.cells ⟨pkC zeroP (none, 0) (none, 0)⟩ 56)).heap.size < w5.heap.size := by omega
    refine VDraw.held (fun w' => Blk w' wp.heap.size 56 ⟨pkC (parseP l) O D⟩ ∧ Blk w' w5.heap.size 61 ⟨dgC (udpP (parseP l).src (parseP l).dst (parseP l).data) D2⟩) [0, 1, 2, 3, 4, 5, 6] (by kernel_rfl) (by kernel_rfl) ⟨b5z.drew, b7z.drew⟩ ?_
    conv => whnf
    refine ⟨_, fun w' hw' => Blk.pkAll hw'.1 hp.ok, ?_⟩
    conv => whnf
    refine ⟨_, fun w' hw' => Loads.all hw'.2 (by kernel_rfl) (by kernel_rfl), ?_⟩
    conv => whnf
    refine vStore.all (cs := pkC (parseP l) O D) b2z.drew (by rw [hpl]; kernel_rfl) (by rw [hpl]; kernel_rfl) (one_pkC _ _ _) (fun wx b2x hox _ => ?_)
    have b5x := b5z.drew.only hox (fun hm => by have h3 : wp.heap.size = w.heap.size := List.mem_singleton.1 hm; omega)
    have b7x := b7z.drew.only hox (fun hm => by have h3 : w5.heap.size = w.heap.size := List.mem_singleton.1 hm; omega)
    refine ⟨⟨b5x, b7x⟩, ?_⟩
    have b3x := b3z.drew.only hox (fun hm => by have h3 : (w.alloc (.cells ⟨pkC zeroP (none, 0) (none, 0)⟩ 56)).heap.size = w.heap.size := List.mem_singleton.1 hm; omega)
    conv => whnf
    refine vStore.all (cs := dgC (udpP (parseP l).src (parseP l).dst (parseP l).data) D2) b3x (by kernel_rfl) (by kernel_rfl) (one_dgC _ _) (fun wy b3y hoy _ => ?_)
    refine ⟨⟨b5x.only hoy (fun hm => by have h3 : wp.heap.size = (w.alloc (.cells ⟨pkC zeroP (none, 0) (none, 0)⟩ 56)).heap.size := List.mem_singleton.1 hm; omega), b7x.only hoy (fun hm => by have h3 : w5.heap.size = (w.alloc (.cells ⟨pkC zeroP (none, 0) (none, 0)⟩ 56)).heap.size := List.mem_singleton.1 hm; omega)⟩, ?_⟩
    have b2y := b2x.only hoy (fun hm => by have h3 : w.heap.size = (w.alloc (.cells ⟨pkC zeroP (none, 0) (none, 0)⟩ 56)).heap.size := List.mem_singleton.1 hm; omega)
    refine hN1 _ _ ?_
    conv => whnf
    refine ⟨_, b2y.pkAll hp.ok, ?_⟩
    conv => whnf
    refine ⟨_, Loads.all b3y (by kernel_rfl) (by kernel_rfl), ?_⟩
    conv => whnf
    have hD : validD l = udpP (parseP l).src (parseP l).dst (parseP l).data := if_pos he
    have hB : validB l = (udpE (parseP l).src (parseP l).dst (parseP l).data == 0) := by
      unfold validB
      rw [decide_eq_true he]
      rfl
    have z5 : wo.heap.size ≤ w5.heap.size := Nat.le_trans zwp ho5.size
    have hpy := ((hpz.o ((Only.refl [] _).drew)).far hox (show w.heap.size < wo.heap.size by omega)).far hoy (show (w.alloc (.cells ⟨pkC zeroP (none, 0) (none, 0)⟩ 56)).heap.size < wo.heap.size by omega)
    have hdy := ((hd3.o ((Only.refl [] _).drew)).far hox (show w.heap.size < wq.heap.size by omega)).far hoy (show (w.alloc (.cells ⟨pkC zeroP (none, 0) (none, 0)⟩ 56)).heap.size < wq.heap.size by omega)
    have := hfin wy O D D2 (hpy.below zwo) (by rw [hD]; exact hdy.below (by omega)) ((((hw5.t0 how_z).drew).nw hox (Nat.le_refl _)).nw hoy hq3w) b2y (by rw [hD]; exact b3y)
    rw [hD, hB] at this
    exact this
end Go.Proofs.YtofomopdaponbaaGreatDoor
