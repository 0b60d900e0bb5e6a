/-
  mosaiclaw30: ownP and sameP.
-/
import Derived.Test.YtofomopdaponbaaGreatDoorZag
import Derived.Test.YtofomopdaponbaaGreatDoorZh
namespace Go.Proofs.YtofomopdaponbaaGreatDoor
open Go.RowKit
set_option linter.unusedVariables false
set_option linter.unusedSimpArgs false

set_option maxHeartbeats 1000000 in
set_option maxRecDepth 100000 in
theorem ownP_does {w : World} {p : Pk} {O D : At} {B : Nat} (hp : Pks w p O D B) (hol : p.opts.length ≤ 65535) (hdl : p.data.length ≤ 65535) : Does Tryz.prog 35 [.agg ⟨pkC p O D⟩] w (fun v w' => ∃ O2 D2, v = .agg ⟨pkC p O2 D2⟩ ∧ PlOk w' w.heap.size [] ⟨p, O2, D2⟩ ∧ Only [] w w') := by
  have hA := Only.alloc (Only.refl [] w) (.cells ⟨pkC p O D⟩ 56)
  have hb := Blk.new w 56 ⟨pkC p O D⟩
  have ok := hp.ok
  obtain ⟨GO, hGO, hGOl⟩ : ∃ G, Bs w G O.1 p.opts.length p.opts ∧ ∀ k ∈ G, k < w.heap.size := by
    obtain ⟨G, hG, -⟩ := hp.opts
    exact hG.tight
  obtain ⟨GD, hGD, hGDl⟩ : ∃ G, Bs w G D.1 p.data.length p.data ∧ ∀ k ∈ G, k < w.heap.size := by
    obtain ⟨G, hG, -⟩ := hp.data
    exact hG.tight
  refine Does.enter (fn := Tryz.f35) (by kernel_rfl) rfl (by kernel_rfl) (by kernel_rfl) ?_
  conv => whnf
  have hA1 : Only [] w (World.alloc (World.alloc w (.cells ⟨pkC p O D⟩ 56)) (.cells ⟨pkC zeroP (none, 0) (none, 0)⟩ 56)) := hA.alloc _
  have hbR : Blk (World.alloc (World.alloc w (.cells ⟨pkC p O D⟩ 56)) (.cells ⟨pkC zeroP (none, 0) (none, 0)⟩ 56)) w.heap.size 56 ⟨pkC p O D⟩ := hb.alloc _
  have hr0 : Blk (World.alloc (World.alloc w (.cells ⟨pkC p O D⟩ 56)) (.cells ⟨pkC zeroP (none, 0) (none, 0)⟩ 56)) (World.alloc w (.cells ⟨pkC p O D⟩ 56)).heap.size 56 ⟨pkC zeroP (none, 0) (none, 0)⟩ := Blk.new _ _ _
  have hg1 : w.heap.size < (World.alloc w (.cells ⟨pkC p O D⟩ 56)).heap.size := hb.lt
  (refine ⟨_, Loads.one (by kernel_rfl) (hbR.pkOpts ok), ?_⟩; conv => whnf)
  refine (own_does (hGO.o hA1) (by omega)).mono ?_
  intro v w1 hv1
  obtain ⟨A1, c1, G1, rfl, hG1, hc1, hc1m, ho1, hG1n⟩ := hv1.bs
  have hb1 := hbR.only ho1 (by simp)
  have hw1 := hA1.t0 ho1
  have hr1 := hr0.only ho1 (by simp)
  have hz0 : w.heap.size < (World.alloc (World.alloc w (.cells ⟨pkC p O D⟩ 56)) (.cells ⟨pkC zeroP (none, 0) (none, 0)⟩ 56)).heap.size := hbR.lt
  have hz0r := hr0.lt
  have d1 : ∀ k ∈ G1, k ∉ [w.heap.size] := fun k hk => by have := (hG1n k hk).1; simp only [List.mem_singleton]; omega
  have dr : w.heap.size < (World.alloc w (.cells ⟨pkC p O D⟩ 56)).heap.size → (World.alloc w (.cells ⟨pkC p O D⟩ 56)).heap.size ∉ [w.heap.size] := fun h => by simp only [List.mem_singleton]; omega
  conv => whnf
  refine vStore.one (i := 44) hb1 (by kernel_rfl) rfl ((pk_tail ok 7).trans rfl) (fun hb3 ho3 => ?_)
  have hr3 := hr1.only ho3 (dr hg1)
  have hG13 := hG1.only ho3 d1
  have hw3 := hw1.trans ho3 (fun k hk => .inr (by simp at hk; omega))
  rw [pk_put_opts ok p.opts A1 _ c1 rfl] at hb3
  have hz3 := ho3.size
  generalize w1.setCell _ _ = w3 at hb3 ho3 hG13 hw3 hz3 hr3 ⊢
  rw [show ({ p with opts := p.opts } : Pk) = p from rfl] at hb3
  conv => whnf
  (refine ⟨_, Loads.one (by kernel_rfl) (hb3.pkData ok), ?_⟩; conv => whnf)
  refine (own_does (hGD.o hw3) (by omega)).mono ?_
  intro v w2 hv2
  obtain ⟨A2, c2, G2, rfl, hG2, hc2, hc2m, ho2, hG2n⟩ := hv2.bs
  have hb2 := hb3.only ho2 (by simp)
  have hw2 := hw3.t0 ho2
  have hr2 := hr3.only ho2 (by simp)
  have hG12 := hG13.o ho2
  have hz2 := ho2.size
  have d2 : ∀ k ∈ G2, k ∉ [w.heap.size] := fun k hk => by have := (hG2n k hk).1; have := ho1.size; simp only [List.mem_singleton]; omega
  conv => whnf
  refine vStore.one (i := 45) hb2 (by kernel_rfl) rfl ((pk_tail ok 8).trans rfl) (fun hb4 ho4 => ?_)
  have hr4 := hr2.only ho4 (dr hg1)
  have hG14 := hG12.only ho4 d1
  have hG24 := hG2.only ho4 d2
  have hw4 := hw2.trans ho4 (fun k hk => .inr (by simp at hk; omega))
  have hz4 := ho4.size
  rw [pk_put_data ok p.data A2 _ c2 rfl] at hb4
  generalize w2.setCell _ _ = w4 at hb4 ho4 hG14 hG24 hw4 hz4 hr4 ⊢
  rw [show ({ p with data := p.data } : Pk) = p from rfl] at hb4
  conv => whnf
  (refine ⟨_, hb4.pkAll ok, ?_⟩; conv => whnf)
  have okz : okPk zeroP := (zeroP_ok w 0).ok
  refine vStore.all (cs := pkC p (A1, c1) (A2, c2)) hr4 (by rw [pk_len ok]; kernel_rfl) (by rw [pk_len ok, pk_len okz]) (one_pkC _ _ _) (fun w5 hb5 ho5 hz5 => ?_)
  have d1' : ∀ k ∈ G1, k ∉ [(World.alloc w (.cells ⟨pkC p O D⟩ 56)).heap.size] := fun k hk => by have := (hG1n k hk).1; simp only [List.mem_singleton]; omega
  have d2' : ∀ k ∈ G2, k ∉ [(World.alloc w (.cells ⟨pkC p O D⟩ 56)).heap.size] := fun k hk => by have := (hG2n k hk).1; have := ho1.size; simp only [List.mem_singleton]; omega
  have hG15 := hG14.only ho5 d1'
  have hG25 := hG24.only ho5 d2'
  have hw5 := hw4.trans ho5 (fun k hk => .inr (by simp at hk; omega))
  conv => whnf
  (refine ⟨_, hb5.pkAll ok, ?_⟩; conv => whnf)
  have hw2s := ho1.size
  exact ⟨(A1, c1), (A2, c2), rfl, ⟨ok, ⟨G1, hG15, fun k hk => by have := hG1n k hk; refine ⟨by omega, by simp, ?_⟩; omega⟩, ⟨G2, hG25, fun k hk => by have := hG2n k hk; exact ⟨by omega, by simp, by omega⟩⟩, ⟨hc1, hc1m⟩, ⟨hc2, hc2m⟩, hp.ol, hp.dl⟩, hw5⟩
end Go.Proofs.YtofomopdaponbaaGreatDoor
/-
  mosaiclaw30: sameP of one packet at two places. Printed by gen/samep.py.
-/
namespace Go.Proofs.YtofomopdaponbaaGreatDoor
open Go.RowKit
set_option linter.unusedVariables false
set_option linter.unusedSimpArgs false

set_option maxHeartbeats 4000000 in
set_option maxRecDepth 100000 in
theorem sameP_does {w : World} {p : Pk} {O D O2 D2 : At} {B B2 : Nat} (hp : Pks w p O D B) (hq : Pks w p O2 D2 B2) (hl : p.opts.length ≤ 65535 ∧ p.data.length ≤ 65535) : Does Tryz.prog 37 [.agg ⟨pkC p O D⟩, .agg ⟨pkC p O2 D2⟩] w (fun v w' => v = .bool true ∧ Only [] w w') := by
  have ok := hp.ok
  have hA := (Only.alloc (Only.refl [] w) (.cells ⟨pkC p O D⟩ 56)).alloc (.cells ⟨pkC p O2 D2⟩ 56)
  have b1 := (Blk.new w 56 ⟨pkC p O D⟩).alloc (.cells ⟨pkC p O2 D2⟩ 56)
  have b2 := Blk.new (w.alloc (.cells ⟨pkC p O D⟩ 56)) 56 ⟨pkC p O2 D2⟩
  obtain ⟨GO, hGO, -⟩ := hp.opts
  obtain ⟨GD, hGD, -⟩ := hp.data
  obtain ⟨GO2, hGO2, -⟩ := hq.opts
  obtain ⟨GD2, hGD2, -⟩ := hq.data
  refine Does.enter (fn := Tryz.f37) (by kernel_rfl) rfl (by kernel_rfl) (by kernel_rfl) ?_
  refine vc.abs fun N0 hN => ?_
  conv => whnf
  refine hN _ _ ?_
  refine vc.abs fun N1 hN1 => ?_
  conv => whnf
  (refine ⟨_, Loads.one (by kernel_rfl) (b1.pkV), ?_⟩; conv => whnf)
  (refine ⟨_, Loads.one (by kernel_rfl) (b2.pkV), ?_⟩; conv => whnf)
  rw [beq_self_eq_true]
  conv => whnf
  (refine ⟨_, Loads.one (by kernel_rfl) (b1.pkTos), ?_⟩; conv => whnf)
  (refine ⟨_, Loads.one (by kernel_rfl) (b2.pkTos), ?_⟩; conv => whnf)
  rw [beq_self_eq_true]
  conv => whnf
  (refine ⟨_, Loads.one (by kernel_rfl) (b1.pkFlow), ?_⟩; conv => whnf)
  (refine ⟨_, Loads.one (by kernel_rfl) (b2.pkFlow), ?_⟩; conv => whnf)
  rw [beq_self_eq_true]
  conv => whnf
  (refine ⟨_, b1.pkSrc ok, ?_⟩; conv => whnf)
  (refine ⟨_, b2.pkSrc ok, ?_⟩; conv => whnf)
  refine ⟨_, eql_ad ok.src ok.src _ _, ?_⟩
  rw [decide_eq_true (rfl : p.src = p.src)]
  conv => whnf
  (refine ⟨_, b1.pkDst ok, ?_⟩; conv => whnf)
  (refine ⟨_, b2.pkDst ok, ?_⟩; conv => whnf)
  refine ⟨_, eql_ad ok.dst ok.dst _ _, ?_⟩
  rw [decide_eq_true (rfl : p.dst = p.dst)]
  conv => whnf
  (refine ⟨_, Loads.one (by kernel_rfl) (b1.pkProto ok), ?_⟩; conv => whnf)
  (refine ⟨_, Loads.one (by kernel_rfl) (b2.pkProto ok), ?_⟩; conv => whnf)
  rw [beq_self_eq_true]
  conv => whnf
  (refine ⟨_, Loads.one (by kernel_rfl) (b1.pkTtl ok), ?_⟩; conv => whnf)
  (refine ⟨_, Loads.one (by kernel_rfl) (b2.pkTtl ok), ?_⟩; conv => whnf)
  rw [beq_self_eq_true]
  conv => whnf
  (refine ⟨_, Loads.one (by kernel_rfl) (b1.pkId ok), ?_⟩; conv => whnf)
  (refine ⟨_, Loads.one (by kernel_rfl) (b2.pkId ok), ?_⟩; conv => whnf)
  rw [beq_self_eq_true]
  conv => whnf
  (refine ⟨_, Loads.one (by kernel_rfl) (b1.pkDf ok), ?_⟩; conv => whnf)
  (refine ⟨_, Loads.one (by kernel_rfl) (b2.pkDf ok), ?_⟩; conv => whnf)
  rw [beq_self_eq_true]
  conv => whnf
  (refine ⟨_, Loads.one (by kernel_rfl) (b1.pkMore ok), ?_⟩; conv => whnf)
  (refine ⟨_, Loads.one (by kernel_rfl) (b2.pkMore ok), ?_⟩; conv => whnf)
  rw [beq_self_eq_true]
  conv => whnf
  (refine ⟨_, Loads.one (by kernel_rfl) (b1.pkFrag ok), ?_⟩; conv => whnf)
  (refine ⟨_, Loads.one (by kernel_rfl) (b2.pkFrag ok), ?_⟩; conv => whnf)
  rw [beq_self_eq_true]
  conv => whnf
  (refine ⟨_, Loads.one (by kernel_rfl) (b1.pkOff ok), ?_⟩; conv => whnf)
  (refine ⟨_, Loads.one (by kernel_rfl) (b2.pkOff ok), ?_⟩; conv => whnf)
  rw [beq_self_eq_true]
  conv => whnf
  (refine ⟨_, Loads.one (by kernel_rfl) (b1.pkOpts ok), ?_⟩; conv => whnf)
  (refine ⟨_, Loads.one (by kernel_rfl) (b2.pkOpts ok), ?_⟩; conv => whnf)
  refine (same_does (hGO.o hA) (hGO2.o hA)).mono ?_
  rintro v w1 ⟨rfl, rfl⟩
  rw [show sameL p.opts p.opts = true by simp [sameL]]
  conv => whnf
  (refine ⟨_, Loads.one (by kernel_rfl) (b1.pkData ok), ?_⟩; conv => whnf)
  (refine ⟨_, Loads.one (by kernel_rfl) (b2.pkData ok), ?_⟩; conv => whnf)
  refine (same_does (hGD.o hA) (hGD2.o hA)).mono ?_
  rintro v w2 ⟨rfl, rfl⟩
  rw [show sameL p.data p.data = true by simp [sameL]]
  conv => whnf
  refine hN1 _ _ ?_
  conv => whnf
  exact ⟨rfl, hA⟩
end Go.Proofs.YtofomopdaponbaaGreatDoor
