/-
  recut: head, own, key of packets of version 4.
-/
import Derived.Test.YtofomopdaponbaaGreatDoorZae
import Derived.Test.YtofomopdaponbaaGreatDoorZf
import Derived.Test.YtofomopdaponbaaGreatDoorZe
namespace Go.Proofs.YtofomopdaponbaaGreatDoor
open Go.RowKit
set_option linter.unusedVariables false
set_option linter.unusedSimpArgs false

set_option maxRecDepth 100000 in
theorem rhead_does {w : World} {p : Pk} {O D : At} {B : Nat} (hp : Pks w p O D B) (hs : Shp w) (hv : p.v = 4) : Does Tryz.prog 93 [.agg ⟨pkC p O D⟩] w (fun v w' => v = .int .i64 (headP p) ∧ Only [] w w') := by
  have hA := Only.alloc (Only.refl [] w) (.cells ⟨pkC p O D⟩ 56)
  have hb := Blk.new w 56 ⟨pkC p O D⟩
  refine Does.enter (fn := Tryz.f93) (by kernel_rfl) rfl (by kernel_rfl) (by kernel_rfl) ?_
  conv => whnf
  (refine ⟨_, Loads.one (by kernel_rfl) (hb.pkV), ?_⟩; conv => whnf)
  refine VIf.eq (fun _ => ?_) (fun e => absurd hv e)
  conv => whnf
  (refine ⟨_, hb.pkAll hp.ok, ?_⟩; conv => whnf)
  (refine (head_does (hp.o hA) (hs.o hA)).mono ?_; rintro v w1 ⟨rfl, ho⟩)
  conv => whnf
  exact ⟨rfl, hA.t0 ho⟩

set_option maxHeartbeats 1000000 in
set_option maxRecDepth 100000 in
theorem rown_does {w : World} {p : Pk} {O D : At} {B : Nat} (hp : Pks w p O D B) : Does Tryz.prog 92 [.agg ⟨pkC p O D⟩] w (fun v w' => ∃ O2 D2, v = .agg ⟨pkC p O2 D2⟩ ∧ PlOk w' w.heap.size [] ⟨p, O2, D2⟩ ∧ Only [] w w') := by
  have hA := Only.alloc (Only.refl [] w) (.cells ⟨pkC p O D⟩ 56)
  have hb := Blk.new w 56 ⟨pkC p O D⟩
  have ok := hp.ok
  obtain ⟨GO, hGO, hGOl⟩ : ∃ G, Bs w G O.1 p.opts.length p.opts ∧ ∀ k ∈ G, k < w.heap.size := by
    obtain ⟨G, hG, -⟩ := hp.opts
    exact hG.tight
  obtain ⟨GD, hGD, hGDl⟩ : ∃ G, Bs w G D.1 p.data.length p.data ∧ ∀ k ∈ G, k < w.heap.size := by
    obtain ⟨G, hG, -⟩ := hp.data
    exact hG.tight
  refine Does.enter (fn := Tryz.f92) (by kernel_rfl) rfl (by kernel_rfl) (by kernel_rfl) ?_
  conv => whnf
  have hA1 := hA.alloc (.cells #[] 56)
  refine VDraw.abs fun N0 hN => ?_
  refine VDraw.ahead 7 (fun _ => True) (fun w' => Blk w' w.heap.size 56 ⟨pkC p O D⟩) [0, 1, 3, 4, 2, 6, 5, 7, 8, 9] (by kernel_rfl) (by kernel_rfl) trivial (hb.alloc _).drew ?_
  have hAR : Only [] w (World.drew (World.alloc (World.alloc w (.cells ⟨pkC p O D⟩ 56)) (.cells ⟨pkC zeroP (none, 0) (none, 0)⟩ 56))) := (hA.alloc _).drew
  have hbR : Blk (World.drew (World.alloc (World.alloc w (.cells ⟨pkC p O D⟩ 56)) (.cells ⟨pkC zeroP (none, 0) (none, 0)⟩ 56))) w.heap.size 56 ⟨pkC p O D⟩ := (hb.alloc _).drew
  have hr0 : Blk (World.drew (World.alloc (World.alloc w (.cells ⟨pkC p O D⟩ 56)) (.cells ⟨pkC zeroP (none, 0) (none, 0)⟩ 56))) (World.alloc w (.cells ⟨pkC p O D⟩ 56)).heap.size 56 ⟨pkC zeroP (none, 0) (none, 0)⟩ := (Blk.new _ _ _).drew
  have hg1 : w.heap.size < (World.alloc w (.cells ⟨pkC p O D⟩ 56)).heap.size := hb.lt
  conv => whnf
  refine ⟨_, fun w' hw' => Loads.one (by kernel_rfl) (Blk.pkOpts hw'.2 ok), ?_⟩
  conv => whnf
  refine ⟨_, fun w' hw' => Loads.one (by kernel_rfl) (Blk.pkData hw'.2 ok), ?_⟩
  conv => whnf
  refine (cloneB_does (hGO.o hAR) hp.ol).mono ?_
  intro v w1 hv1
  obtain ⟨A1, c1, G1, rfl, hG1, hc1, hc1m, ho1, hG1n⟩ := hv1.bs
  have hb1 := hbR.only ho1 (by simp)
  have hw1 := hAR.t0 ho1
  refine ⟨⟨trivial, fun _ => hb1⟩, ?_⟩
  conv => whnf
  refine (cloneB_does (hGD.o hw1) hp.dl).mono ?_
  intro v w2 hv2
  obtain ⟨A2, c2, G2, rfl, hG2, hc2, hc2m, ho2, hG2n⟩ := hv2.bs
  have hb2 := hb1.only ho2 (by simp)
  have hr2 := (hr0.only ho1 (by simp)).only ho2 (by simp)
  have hw2 := hw1.t0 ho2
  have hG12 := hG1.o ho2
  refine ⟨⟨trivial, fun _ => hb2⟩, ?_⟩
  conv => whnf
  refine vStore.one (i := 44) hb2 (by kernel_rfl) rfl ((pk_tail ok 7).trans rfl) (fun hb3 ho3 => ?_)
  have hsz : w.heap.size < w1.heap.size := hb1.lt
  have hz1 : w.heap.size < (World.drew (World.alloc (World.alloc w (.cells ⟨pkC p O D⟩ 56)) (.cells ⟨pkC zeroP (none, 0) (none, 0)⟩ 56))).heap.size := hbR.lt
  have d1 : ∀ k ∈ G1, k ∉ [w.heap.size] := fun k hk => by have := (hG1n k hk).1; simp only [List.mem_singleton]; omega
  have d2 : ∀ k ∈ G2, k ∉ [w.heap.size] := fun k hk => by have := (hG2n k hk).1; simp only [List.mem_singleton]; omega
  have dr : ∀ {g : Nat}, w.heap.size < g → g ∉ [w.heap.size] := fun h => by simp only [List.mem_singleton]; omega
  have hr3 := hr2.only ho3 (dr hg1)
  have hG13 := hG12.only ho3 d1
  have hG23 := hG2.only ho3 d2
  have hw3 := hw2.trans ho3 (fun k hk => .inr (by simp at hk; omega))
  rw [pk_put_opts ok p.opts A1 _ c1 rfl] at hb3
  have hz3 := ho3.size
  generalize w2.setCell _ _ = w3 at hb3 ho3 hG13 hG23 hw3 hz3 hr3 ⊢
  refine ⟨⟨trivial, fun h => Bool.noConfusion h⟩, ?_⟩
  conv => whnf
  refine vStore.one (i := 45) hb3 (by kernel_rfl) rfl ((pk_tail ok 8).trans rfl) (fun hb4 ho4 => ?_)
  have hr4 := hr3.only ho4 (dr hg1)
  have hG14 := hG13.only ho4 d1
  have hG24 := hG23.only ho4 d2
  have hw4 := hw3.trans ho4 (fun k hk => .inr (by simp at hk; omega))
  have hz4 := ho4.size
  rw [show ({ p with opts := p.opts } : Pk) = p from rfl, pk_put_data ok p.data A2 _ c2 rfl, show ({ p with data := p.data } : Pk) = p from rfl] at hb4
  generalize w3.setCell _ _ = w4 at hb4 ho4 hG14 hG24 hw4 hz4 hr4 ⊢
  refine ⟨⟨trivial, fun h => Bool.noConfusion h⟩, ?_⟩
  refine hN _ _ ?_
  conv => whnf
  (refine ⟨_, hb4.pkAll ok, ?_⟩; conv => whnf)
  have okz : okPk zeroP := (zeroP_ok w 0).ok
  refine vStore.all (cs := pkC p (A1, c1) (A2, c2)) hr4 (by rw [pk_len ok]; kernel_rfl) (by rw [pk_len ok, pk_len okz]) (one_pkC _ _ _) (fun w5 hb5 ho5 hz5 => ?_)
  have d1' : ∀ k ∈ G1, k ∉ [(World.alloc w (.cells ⟨pkC p O D⟩ 56)).heap.size] := fun k hk => by have := (hG1n k hk).1; have := hr0.lt; simp only [List.mem_singleton]; omega
  have d2' : ∀ k ∈ G2, k ∉ [(World.alloc w (.cells ⟨pkC p O D⟩ 56)).heap.size] := fun k hk => by have := (hG2n k hk).1; have := hr0.lt; have := ho1.size; simp only [List.mem_singleton]; omega
  have hG15 := hG14.only ho5 d1'
  have hG25 := hG24.only ho5 d2'
  have hw5 := hw4.trans ho5 (fun k hk => .inr (by simp at hk; omega))
  conv => whnf
  (refine ⟨_, hb5.pkAll ok, ?_⟩; conv => whnf)
  have hw2s := ho1.size
  exact ⟨(A1, c1), (A2, c2), rfl, ⟨ok, ⟨G1, hG15, fun k hk => by have := hG1n k hk; refine ⟨by omega, by simp, ?_⟩; have := ho2.size; omega⟩, ⟨G2, hG25, fun k hk => by have := hG2n k hk; exact ⟨by omega, by simp, by omega⟩⟩, ⟨hc1, hc1m⟩, ⟨hc2, hc2m⟩, hp.ol, hp.dl⟩, hw5⟩

end Go.Proofs.YtofomopdaponbaaGreatDoor
/-
  recut: key and end.
-/
namespace Go.Proofs.YtofomopdaponbaaGreatDoor
open Go.RowKit
set_option linter.unusedVariables false
set_option linter.unusedSimpArgs false

set_option maxRecDepth 100000 in
theorem rkey_does {w : World} {p : Pk} {O D : At} (hp : okPk p) : Does Tryz.prog 160 [.agg ⟨pkC p O D⟩] w (fun v w' => v = .agg ⟨kyC (kyP p)⟩ ∧ Only [] w w') := by
  have hA := Only.alloc (Only.refl [] w) (.cells ⟨pkC p O D⟩ 56)
  have hb := Blk.new w 56 ⟨pkC p O D⟩
  have e1 := adP_id hp.src
  have e2 := adP_id hp.dst
  refine Does.enter (fn := Tryz.f160) (by kernel_rfl) rfl (by kernel_rfl) (by kernel_rfl) ?_
  conv => whnf
  have hA2 := hA.alloc (.cells ⟨kyC ⟨0, (0, []), (0, []), 0, 0⟩⟩ 173)
  have hb := hb.alloc (.cells ⟨kyC ⟨0, (0, []), (0, []), 0, 0⟩⟩ 173)
  refine ⟨_, Loads.one (by kernel_rfl) hb.pkV, ?_⟩
  conv => whnf
  refine ⟨_, hb.pkSrc hp, ?_⟩
  conv => whnf
  refine ⟨_, hb.pkDst hp, ?_⟩
  conv => whnf
  refine ⟨_, Loads.one (by kernel_rfl) (hb.pkProto hp), ?_⟩
  conv => whnf
  refine ⟨_, Loads.one (by kernel_rfl) (hb.pkId hp), ?_⟩
  conv => whnf
  refine lenIs.of (by rw [List.length_map]; exact hp.src.2.2) ?_
  conv => whnf
  refine lenIs.of (by rw [List.length_map]; exact hp.dst.2.2) ?_
  conv => whnf
  have hk : joinL [[.int .i64 p.v], adC p.src, adC p.dst, [.int .i64 p.proto], [.int .u32 p.id]] = kyC (kyP p) := by simp [joinL, kyC, kyP, e1, e2]
  show ∃ w', Stores _ _ ⟨_, 0, none⟩ (.agg ⟨joinL [[.int .i64 p.v], adC p.src, adC p.dst, [.int .i64 p.proto], [.int .u32 p.id]]⟩) ((w.alloc (.cells ⟨pkC p O D⟩ 56)).alloc (.cells ⟨kyC ⟨0, (0, []), (0, []), 0, 0⟩⟩ 173)) w' ∧ _
  rw [hk]
  refine vStore.fresh (cs := kyC (kyP p)) (by rw [kyC_len]; kernel_rfl) (by rw [kyC_len]; rfl) (one_kyC _) (fun w2 b2 ho2 hz2 => ?_)
  conv => whnf
  refine ⟨_, Loads.all b2 (by kernel_rfl) (by rw [kyC_len]; kernel_rfl), ?_⟩
  conv => whnf
  exact ⟨rfl, hA.t0 ho2⟩

/-- Fragments of one datagram: right ones of version 4 with one key, of which just the e-th is the last. -/
structure Frags (z : List Pl) (K : Ky) (e : Nat) : Prop where
  v : ∀ x ∈ z, x.p.v = 4
  hd : ∀ x ∈ z, headP x.p ≠ 0
  ky : ∀ x ∈ z, kyP x.p = K
  more : ∀ i (h : i < z.length), z[i].p.more = decide (i ≠ e)
set_option maxHeartbeats 4000000 in
set_option maxRecDepth 100000 in
theorem rend_does {w : World} {G : List Nat} {A : Option Addr} {n c e : Nat} {z : List Pl} {K : Ky} (hr : Sl w 46 G A n (z.flatMap pkP)) (hz : z.length = n) (hn : n ≤ 65536) (ok : ∀ x ∈ z, PlOk w 0 [] x) (fr : Frags z K e) (okK : okKy K) (he : e < n) (hs : Shp w) :
    Does Tryz.prog 88 [.slice A n c] w (fun v w' => v = .tuple ⟨[.int .i64 e, .bool true]⟩ ∧ Only [] w w') := by
  refine Does.enter (fn := Tryz.f88) (by kernel_rfl) rfl (by kernel_rfl) (by kernel_rfl) ?_
  conv => whnf
  refine VLoop.inv (α := Nat) [(2, 7), (9, 41)] (fun i => [(4, .int .i64 (if i ≤ e then -1 else (e : Int))), (9, .int .i64 i)]) (fun i w' => Only [] w w' ∧ i ≤ n) (fun i => n - i) 0 (by kernel_rfl) ⟨rfl, rfl, trivial⟩ ⟨Only.refl _ _, Nat.zero_le _⟩ ?_
  rintro i wr j ⟨ho, hi⟩
  conv => whnf
  refine VIf.dec (fun ht => ?_) (fun ht => ?_)
  · have hi2 : i < z.length := by omega
    obtain ⟨b, off, rfl, -⟩ := hr.2 (by omega)
    conv => whnf
    have hxi : z[i] ∈ z := List.getElem_mem hi2
    have oki := (ok _ hxi).o ho
    have hel : Loads Tryz.prog 56 ⟨b, off + i * 46, none⟩ wr (.agg ⟨pkC z[i].p z[i].O z[i].D⟩) := by
      rw [← pkP_id oki.ok]
      exact Sl.elem (hr.o ho) pkP_len hi2 (by kernel_rfl) (by kernel_rfl)
    have ok0 := (ok _ (List.getElem_mem (show 0 < z.length by omega))).o ho
    have hel0 : ∀ w', Only [] wr w' → Loads Tryz.prog 56 ⟨b, off + 0 * 46, none⟩ w' (.agg ⟨pkC (z[0]'(by omega)).p (z[0]'(by omega)).O (z[0]'(by omega)).D⟩) := fun w' hw' => by
      rw [← pkP_id ok0.ok]
      exact Sl.elem ((hr.o ho).o hw') pkP_len (by omega) (by kernel_rfl) (by kernel_rfl)
    have hsr := hs.o ho
    have hky := (fr.ky _ hxi).trans (fr.ky _ (List.getElem_mem (show 0 < z.length by omega))).symm
    have hkK := fr.ky _ hxi
    have hmi := fr.more i hi2
    have hvi := fr.v _ hxi
    have hhi := fr.hd _ hxi
    have hv0 := fr.v _ (List.getElem_mem (show 0 < z.length by omega))
    generalize hX : z[i] = X at *
    generalize hX0 : z[0]'(by omega) = X0 at *
    refine ⟨_, _, rfl, i, off + i * 46, rfl, by omega, rfl, ?_⟩
    conv => whnf
    refine ⟨_, hel, ?_⟩
    conv => whnf
    refine vStore.all (cs := pkC X.p X.O X.D) (Blk.new wr 56 _) (by rw [pk_len oki.ok]; kernel_rfl) (by rw [pk_len oki.ok]; rfl) (one_pkC _ _ _) (fun w1 hb1 ho1 hz1 => ?_)
    have hA1 : Only [] wr w1 := ((Only.refl [] wr).alloc _).trans ho1 (fun k hk => .inr (by simp at hk; omega))
    conv => whnf
    refine VDraw.abs fun N0 hN => ?_
    refine VDraw.q (by kernel_rfl) (by kernel_rfl) ?_
    conv => whnf
    refine ⟨_, fun w' hw' => Blk.pkAll (hb1.only hw' (by simp)) oki.ok, ?_⟩
    conv => whnf
    refine ⟨_, fun w' hw' => (rhead_does ((oki.o hA1).o hw').pks ((hsr.o hA1).o hw') hvi).q hw', ?_⟩
    conv => whnf
    rw [show (headP X.p == 0) = false by simpa using hhi]
    conv => whnf
    refine ⟨_, fun w' hw' => Blk.pkAll (hb1.only hw' (by simp)) oki.ok, ?_⟩
    conv => whnf
    refine ⟨_, fun w' hw' => (rkey_does oki.ok).q hw', ?_⟩
    conv => whnf
    refine ⟨_, _, rfl, 0, off + 0 * 46, rfl, by omega, rfl, ?_⟩
    conv => whnf
    refine ⟨_, fun w' hw' => hel0 w' (hA1.t0 hw'), ?_⟩
    conv => whnf
    refine ⟨_, fun w' hw' => (rkey_does ok0.ok).q hw', ?_⟩
    conv => whnf
    have okx : okKy (kyP X.p) := hkK ▸ okK
    refine ⟨_, eql_ky okx (hky ▸ okx) _ _, ?_⟩
    rw [decide_eq_true hky]
    conv => whnf
    refine ⟨_, fun w' hw' => Loads.one (by kernel_rfl) (Blk.pkMore (hb1.only hw' (by simp)) oki.ok), ?_⟩
    rw [hmi]
    conv => whnf
    by_cases hie : i = e
    · subst hie
      have hm0 : X.p.more = false := by rw [hmi]; simp
      rw [show (!decide (i ≠ i)) = true by simp]
      conv => whnf
      rw [if_pos (Nat.le_refl i)]
      conv => whnf
      intro w3 ho3
      refine hN _ _ ?_
      conv => whnf
      refine ⟨_, Loads.one (by kernel_rfl) (Blk.pkMore (hb1.only ho3 (by simp)) oki.ok), ?_⟩
      rw [hm0]
      conv => whnf
      exact ⟨i + 1, ⟨by rw [if_neg (by omega)]; rfl, congrArg (Value.int IntKind.i64) (show IntKind.i64.wrap ((i : Int) + 1) = ((i + 1 : Nat) : Int) by rw [wi64]; omega), trivial⟩, ⟨(ho.t0 hA1).t0 ho3, he⟩, by omega⟩
    · have hm1 : X.p.more = true := by rw [hmi]; simp [hie]
      rw [show (!decide (i ≠ e)) = false by simp [hie]]
      conv => whnf
      intro w3 ho3
      refine hN _ _ ?_
      conv => whnf
      refine ⟨_, Loads.one (by kernel_rfl) (Blk.pkMore (hb1.only ho3 (by simp)) oki.ok), ?_⟩
      rw [hm1]
      conv => whnf
      exact ⟨i + 1, ⟨congrArg (Value.int IntKind.i64) (show (if i ≤ e then (-1 : Int) else (e : Int)) = if i + 1 ≤ e then (-1 : Int) else (e : Int) by
        by_cases h : i ≤ e
        · rw [if_pos h, if_pos (by omega)]
        · rw [if_neg h, if_neg (by omega)]), congrArg (Value.int IntKind.i64) (show IntKind.i64.wrap ((i : Int) + 1) = ((i + 1 : Nat) : Int) by rw [wi64]; omega), trivial⟩, ⟨(ho.t0 hA1).t0 ho3, by omega⟩, by omega⟩
  · have : i = n := by omega
    subst this
    rw [if_neg (by omega)]
    conv => whnf
    exact ⟨rfl, ho⟩

end Go.Proofs.YtofomopdaponbaaGreatDoor
