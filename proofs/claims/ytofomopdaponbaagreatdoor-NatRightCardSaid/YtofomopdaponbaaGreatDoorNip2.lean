/-
  ip4.Parse.
-/
import Derived.Test.YtofomopdaponbaaGreatDoorNip
namespace Go.Proofs.YtofomopdaponbaaGreatDoor
open Go.RowKit
set_option linter.unusedVariables false
set_option linter.unusedSimpArgs false

def zeroP : Pk := ⟨0, 0, 0, (0, List.replicate 16 0), (0, List.replicate 16 0), 0, 0, 0, false, false, false, 0, [], []⟩
def headL (l : List UInt8) : Nat := (l.getD 0 0).toNat % 16 * 4
def parseE (l : List UInt8) : Int :=
  if l.length < 20 then 20
  else if (l.getD 0 0).toNat / 16 ≠ 4 then 50
  else if headL l < 20 then 50
  else if l.length < headL l then 20
  else if wordL l 2 ≠ l.length then 51
  else if checkedL (l.take (headL l)) = false then 52
  else if andI .u16 (flagF l) 32768 ≠ 0 then 50
  else if placedP (readP l (headL l)) = false then 50
  else if optsOk (readP l (headL l)).opts = false then 40
  else 0
def parseP (l : List UInt8) : Pk := if parseE l = 0 then readP l (headL l) else zeroP
theorem zeroP_ok (w : World) (B : Nat) : Pks w zeroP (none, 0) (none, 0) B :=
  ⟨⟨⟨by decide, by decide, rfl⟩, ⟨by decide, by decide, rfl⟩, by decide⟩, ⟨[], Sl.nil _ _ _ _, by simp⟩, ⟨[], Sl.nil _ _ _ _, by simp⟩, ⟨by decide, by decide⟩, ⟨by decide, by decide⟩, by decide, by decide⟩
theorem parse_fail {w w' : World} {l : List UInt8} {e : Int} (he : parseE l = e) (hne : e ≠ 0) (ho : Only [] w w') :
    ∃ O D, Value.tuple ⟨[.agg ⟨pkC zeroP (none, 0) (none, 0)⟩, .int .i64 e]⟩ = .tuple ⟨[.agg ⟨pkC (parseP l) O D⟩, .int .i64 (parseE l)]⟩ ∧ Pks w' (parseP l) O D w.heap.size ∧ Only [] w w' := by
  have hp : parseP l = zeroP := if_neg (by rw [he]; exact hne)
  rw [hp, he]
  exact ⟨(none, 0), (none, 0), rfl, zeroP_ok _ _, ho⟩
theorem size_e {l : List UInt8} : IntKind.i64.wrap (IntKind.i64.wrap (IntKind.i64.wrap ((l.getD 2 0).toNat : Int) * pw 8 .i64) + IntKind.i64.wrap ((l.getD 3 0).toNat : Int)) = wordL l 2 := by
  have h2 := u8_le (l.getD 2 0)
  have h3 := u8_le (l.getD 3 0)
  rw [wi8, wi8, show pw 8 .i64 = 256 from rfl]
  have e : IntKind.i64.wrap (((l.getD 2 0).toNat : Int) * 256) = ((l.getD 2 0).toNat : Int) * 256 := by rw [wi64]; omega
  rw [e, wi64]
  show _ = ((l.getD 2 0).toNat : Int) * 256 + ((l.getD 3 0).toNat : Int)
  omega
set_option maxHeartbeats 4000000 in
set_option maxRecDepth 100000 in
theorem parse_does {w : World} {G : List Nat} {A : Option Addr} {n c : Nat} {l : List UInt8} (h : Bs w G A n l) (hs : Shp w) (hn : n ≤ 140737488355328) (hc : n ≤ c) (hcm : c ≤ 9223372036854775807) :
    Does Tryz.prog 21 [.slice A n c] w (fun v w' => ∃ O D, v = .tuple ⟨[.agg ⟨pkC (parseP l) O D⟩, .int .i64 (parseE l)]⟩ ∧ Pks w' (parseP l) O D w.heap.size ∧ Only [] w w') := by
  have hl := h.len
  have hA := Only.alloc (Only.refl [] w) (.cells ⟨pkC zeroP (none, 0) (none, 0)⟩ 56)
  have b2 := Blk.new w 56 ⟨pkC zeroP (none, 0) (none, 0)⟩
  have hb := h.o hA
  have hs1 := hs.o hA
  refine Does.enter (fn := Tryz.f21) (by kernel_rfl) rfl (by kernel_rfl) (by kernel_rfl) ?_
  conv => whnf
  refine VIf.dec (fun h1 => ?_) (fun h1 => ?_)
  · have hE : parseE l = 20 := if_pos (by omega)
    conv => whnf
    refine vStore.all (cs := pkC zeroP (none, 0) (none, 0)) b2 (by kernel_rfl) rfl (one_pkC _ _ _) (fun wz bz hoZ _ => ?_)
    conv => whnf
    refine ⟨_, Loads.all bz (by kernel_rfl) (by kernel_rfl), ?_⟩
    conv => whnf
    exact parse_fail hE (by decide) (hA.nw hoZ (Nat.le_refl _))
  have g1 : ¬ l.length < 20 := by omega
  obtain ⟨b, off, rfl, -⟩ := hb.some_ (by omega)
  have hc0 := u8_le (l.getD 0 0)
  have eh : IntKind.i64.wrap (IntKind.i64.wrap (((l.getD 0 0).toNat : Int).tmod 16) * 4) = ((headL l : Nat) : Int) := by
    have e1 : IntKind.i64.wrap (((l.getD 0 0).toNat : Int).tmod 16) = (((l.getD 0 0).toNat % 16 : Nat) : Int) := by
      rw [Int.tmod_eq_emod_of_nonneg (by omega), wi64]
      omega
    rw [e1, wi64]
    unfold headL
    omega
  conv => whnf
  refine ⟨_, _, rfl, 0, off + 0, rfl, by omega, p1 _ _, ?_⟩
  conv => whnf
  refine ⟨_, Loads.one (by kernel_rfl) (hb.ld (getD_some (by omega))), ?_⟩
  conv => whnf
  rw [eh]
  refine ⟨_, _, rfl, 0, off + 0, rfl, by omega, p1 _ _, ?_⟩
  conv => whnf
  refine ⟨_, Loads.one (by kernel_rfl) (hb.ld (getD_some (by omega))), ?_⟩
  conv => whnf
  have eq0 : IntKind.u8.wrap (((l.getD 0 0).toNat : Int).tdiv 16) = (((l.getD 0 0).toNat / 16 : Nat) : Int) := by
    rw [Int.tdiv_eq_ediv_of_nonneg (by omega), wr8]
    omega
  refine VIf.ne (fun h2 => ?_) (fun h2 => ?_)
  · rw [eq0] at h2
    have h2 : (l.getD 0 0).toNat / 16 ≠ 4 := by omega
    have hE : parseE l = 50 := by
      unfold parseE
      rw [if_neg g1, if_pos h2]
    conv => whnf
    refine vStore.all (cs := pkC zeroP (none, 0) (none, 0)) b2 (by kernel_rfl) rfl (one_pkC _ _ _) (fun wz bz hoZ _ => ?_)
    conv => whnf
    refine ⟨_, Loads.all bz (by kernel_rfl) (by kernel_rfl), ?_⟩
    conv => whnf
    exact parse_fail hE (by decide) (hA.nw hoZ (Nat.le_refl _))
  rw [eq0] at h2
  have g2 : ¬ (l.getD 0 0).toNat / 16 ≠ 4 := by omega
  conv => whnf
  refine VIf.dec (fun h3 => ?_) (fun h3 => ?_)
  · have h3 : headL l < 20 := by omega
    have hE : parseE l = 50 := by
      unfold parseE
      rw [if_neg g1, if_neg g2, if_pos h3]
    conv => whnf
    refine vStore.all (cs := pkC zeroP (none, 0) (none, 0)) b2 (by kernel_rfl) rfl (one_pkC _ _ _) (fun wz bz hoZ _ => ?_)
    conv => whnf
    refine ⟨_, Loads.all bz (by kernel_rfl) (by kernel_rfl), ?_⟩
    conv => whnf
    exact parse_fail hE (by decide) (hA.nw hoZ (Nat.le_refl _))
  have g3 : ¬ headL l < 20 := by omega
  conv => whnf
  refine VIf.dec (fun h4 => ?_) (fun h4 => ?_)
  · have h4 : l.length < headL l := by omega
    have hE : parseE l = 20 := by
      unfold parseE
      rw [if_neg g1, if_neg g2, if_neg g3, if_pos h4]
    conv => whnf
    refine vStore.all (cs := pkC zeroP (none, 0) (none, 0)) b2 (by kernel_rfl) rfl (one_pkC _ _ _) (fun wz bz hoZ _ => ?_)
    conv => whnf
    refine ⟨_, Loads.all bz (by kernel_rfl) (by kernel_rfl), ?_⟩
    conv => whnf
    exact parse_fail hE (by decide) (hA.nw hoZ (Nat.le_refl _))
  have g4 : ¬ l.length < headL l := by omega
  conv => whnf
  refine VDraw.abs fun N0 hN => ?_
  refine VDraw.q (by kernel_rfl) (by kernel_rfl) ?_
  conv => whnf
  refine ⟨_, _, rfl, 2, off + 2, rfl, by omega, p1 _ _, ?_⟩
  conv => whnf
  refine ⟨_, fun w' hw' => Loads.one (by kernel_rfl) ((hb.o hw').ld (getD_some (by omega))), ?_⟩
  conv => whnf
  refine ⟨_, _, rfl, 3, off + 3, rfl, by omega, p1 _ _, ?_⟩
  conv => whnf
  refine ⟨_, fun w' hw' => Loads.one (by kernel_rfl) ((hb.o hw').ld (getD_some (by omega))), ?_⟩
  conv => whnf
  intro w2 ho2
  conv => whnf
  refine hN _ _ ?_
  have b2 := b2.only ho2 (by simp)
  have hw2 := hA.t0 ho2
  have hb2 := hb.o ho2
  conv => whnf
  rw [size_e]
  refine VIf.ne (fun h5 => ?_) (fun h5 => ?_)
  · have h5 : wordL l 2 ≠ (l.length : Int) := by rw [hl]; exact h5
    have hE : parseE l = 51 := by
      unfold parseE
      rw [if_neg g1, if_neg g2, if_neg g3, if_neg g4, if_pos h5]
    conv => whnf
    refine vStore.all (cs := pkC zeroP (none, 0) (none, 0)) b2 (by kernel_rfl) rfl (one_pkC _ _ _) (fun wz bz hoZ _ => ?_)
    conv => whnf
    refine ⟨_, Loads.all bz (by kernel_rfl) (by kernel_rfl), ?_⟩
    conv => whnf
    exact parse_fail hE (by decide) (hw2.nw hoZ (Nat.le_refl _))
  have g5 : ¬ wordL l 2 ≠ (l.length : Int) := by rw [hl]; exact fun e => e h5
  have hcut := hb2.cut (lo := 0) (hi := headL l) (m := c) (by omega) (by omega) (by omega) rfl
  rw [List.drop_zero, Nat.sub_zero] at hcut
  conv => whnf
  refine ⟨0, headL l, c, rfl, rfl, rfl, by omega, by omega, by omega, _, headL l, c - 0, rfl, rfl, rfl, ?_⟩
  conv => whnf
  have h60 : headL l ≤ 60 := by unfold headL; omega
  refine (checked_does hcut (by omega) (by omega)).mono ?_
  rintro v w3 ⟨rfl, ho3⟩
  have b2 := b2.only ho3 (by simp)
  have hw3 := hw2.t0 ho3
  have hb3 := hb2.o ho3
  conv => whnf
  refine VIf.not (VIf.of (b := checkedL (l.take (headL l))) (fun h6 => ?_) (fun h6 => ?_))
  rotate_left
  · have h6 := h6
    have hE : parseE l = 52 := by
      unfold parseE
      rw [if_neg g1, if_neg g2, if_neg g3, if_neg g4, if_neg g5, if_pos h6]
    conv => whnf
    refine vStore.all (cs := pkC zeroP (none, 0) (none, 0)) b2 (by kernel_rfl) rfl (one_pkC _ _ _) (fun wz bz hoZ _ => ?_)
    conv => whnf
    refine ⟨_, Loads.all bz (by kernel_rfl) (by kernel_rfl), ?_⟩
    conv => whnf
    exact parse_fail hE (by decide) (hw3.nw hoZ (Nat.le_refl _))
  have g6 : ¬ checkedL (l.take (headL l)) = false := by rw [h6]; decide
  conv => whnf
  refine (read_does (head := headL l) hb3 (by omega) (by omega) hn).mono ?_
  have hlt3 := b2.lt
  rintro v w4 ⟨O, D, rfl, hp, ho4⟩
  have b2 := b2.only ho4 (by simp)
  have hw4 := hw3.t0 ho4
  conv => whnf
  refine vStore.fresh (cs := pkC (readP l (headL l)) O D) (by rw [pk_len hp.ok]; kernel_rfl) (by rw [pk_len hp.ok]; rfl) (one_pkC _ _ _) (fun w5 b5 ho5 hz5 => ?_)
  have b2 := b2.only ho5 (by simp)
  have hw5 := hw4.t0 ho5
  have hp := hp.o ho5
  conv => whnf
  refine VIf.ne (fun h7 => ?_) (fun h7 => ?_)
  · have h7 := h7
    have hE : parseE l = 50 := by
      unfold parseE
      rw [if_neg g1, if_neg g2, if_neg g3, if_neg g4, if_neg g5, if_neg g6, if_pos h7]
    conv => whnf
    refine vStore.all (cs := pkC zeroP (none, 0) (none, 0)) b2 (by kernel_rfl) rfl (one_pkC _ _ _) (fun wz bz hoZ _ => ?_)
    conv => whnf
    refine ⟨_, Loads.all bz (by kernel_rfl) (by kernel_rfl), ?_⟩
    conv => whnf
    exact parse_fail hE (by decide) (hw5.nw hoZ (Nat.le_refl _))
  have g7 : ¬ andI .u16 (flagF l) 32768 ≠ 0 := fun e => e h7
  conv => whnf
  refine ⟨_, b5.pkAll hp.ok, ?_⟩
  conv => whnf
  refine (placed_does hp.ok hp.dl).mono ?_
  rintro v w6 ⟨rfl, ho6⟩
  have b2 := b2.only ho6 (by simp)
  have b5 := b5.only ho6 (by simp)
  have hw6 := hw5.t0 ho6
  have hp := hp.o ho6
  conv => whnf
  refine VIf.not (VIf.of (b := placedP (readP l (headL l))) (fun h8 => ?_) (fun h8 => ?_))
  rotate_left
  · have h8 := h8
    have hE : parseE l = 50 := by
      unfold parseE
      rw [if_neg g1, if_neg g2, if_neg g3, if_neg g4, if_neg g5, if_neg g6, if_neg g7, if_pos h8]
    conv => whnf
    refine vStore.all (cs := pkC zeroP (none, 0) (none, 0)) b2 (by kernel_rfl) rfl (one_pkC _ _ _) (fun wz bz hoZ _ => ?_)
    conv => whnf
    refine ⟨_, Loads.all bz (by kernel_rfl) (by kernel_rfl), ?_⟩
    conv => whnf
    exact parse_fail hE (by decide) (hw6.nw hoZ (Nat.le_refl _))
  have g8 : ¬ placedP (readP l (headL l)) = false := by rw [h8]; decide
  conv => whnf
  refine ⟨_, Loads.one (by kernel_rfl) (b5.pkOpts hp.ok), ?_⟩
  obtain ⟨GO, hGO, -⟩ := hp.opts
  have hs6 := hs.o hw6
  conv => whnf
  refine (optsValid_does hGO hs6 hp.oc.1 hp.oc.2).mono ?_
  rintro v w7 ⟨rfl, ho7⟩
  have b2 := b2.only ho7 (by simp)
  have b5 := b5.only ho7 (by simp)
  have hw7 := hw6.t0 ho7
  have hp := hp.o ho7
  conv => whnf
  refine VIf.not (VIf.of (b := optsOk (readP l (headL l)).opts) (fun h9 => ?_) (fun h9 => ?_))
  rotate_left
  · have h9 := h9
    have hE : parseE l = 40 := by
      unfold parseE
      rw [if_neg g1, if_neg g2, if_neg g3, if_neg g4, if_neg g5, if_neg g6, if_neg g7, if_neg g8, if_pos h9]
    conv => whnf
    refine vStore.all (cs := pkC zeroP (none, 0) (none, 0)) b2 (by kernel_rfl) rfl (one_pkC _ _ _) (fun wz bz hoZ _ => ?_)
    conv => whnf
    refine ⟨_, Loads.all bz (by kernel_rfl) (by kernel_rfl), ?_⟩
    conv => whnf
    exact parse_fail hE (by decide) (hw7.nw hoZ (Nat.le_refl _))
  have g9 : ¬ optsOk (readP l (headL l)).opts = false := by rw [h9]; decide
  have hE : parseE l = 0 := by
    unfold parseE
    rw [if_neg g1, if_neg g2, if_neg g3, if_neg g4, if_neg g5, if_neg g6, if_neg g7, if_neg g8, if_neg g9]
  have hP : parseP l = readP l (headL l) := if_pos hE
  conv => whnf
  refine ⟨_, b5.pkAll hp.ok, ?_⟩
  conv => whnf
  refine vStore.all (cs := pkC (readP l (headL l)) O D) b2 (by rw [pk_len hp.ok]; kernel_rfl) (by rw [pk_len hp.ok]; rfl) (one_pkC _ _ _) (fun wz bz hoZ hzz => ?_)
  conv => whnf
  refine ⟨_, bz.pkAll hp.ok, ?_⟩
  conv => whnf
  rw [hE, hP]
  exact ⟨O, D, rfl, (hp.far hoZ hlt3).below (Nat.le_of_lt hlt3), hw7.nw hoZ (Nat.le_refl _)⟩
end Go.Proofs.YtofomopdaponbaaGreatDoor
