/-
  NatMemory, walked.
-/
import Derived.Test.YtofomopdaponbaaGreatDoorYNme
import Derived.Test.YtofomopdaponbaaGreatDoorYNsm
namespace Go.Proofs.YtofomopdaponbaaGreatDoor
open Go.RowKit
set_option linter.unusedVariables false
set_option linter.unusedSimpArgs false

/-- Blocks that lie beneath and are not these. -/
def Sep (G F : List Nat) (w : World) : Prop := ∀ k ∈ G, k ∉ F ∧ k < w.heap.size
theorem Sep.go {G F F' : List Nat} {w w' : World} (h : Sep G F w) (ho : w.heap.size ≤ w'.heap.size) (hF : ∀ k ∈ F', k ∈ F ∨ w.heap.size ≤ k) : Sep G F' w' := fun k hk => by
  obtain ⟨h1, h2⟩ := h k hk
  refine ⟨fun hm => ?_, by omega⟩
  rcases hF k hm with h | h
  · exact h1 h
  · omega
theorem Sep.up {G F : List Nat} {w w' : World} (h : Sep G F w) (ho : w.heap.size ≤ w'.heap.size) : Sep G F w' := h.go ho (fun k hk => .inl hk)

theorem nmC_port (m : Nm) (u : Int) : nmC { m with port := u } = (nmC m).set 17 (.int .i64 u) := by
  unfold nmC
  have h := adP_len m.addr
  rw [List.set_append_right _ _ (by omega), h]
  rfl

set_option maxHeartbeats 4000000 in
set_option maxRecDepth 100000 in
theorem natMemory_does {W : World} {B : Option Addr} {m d : Nat} {GB : List Nat} {e : Int × Int} {to : Int} {data0 : List UInt8} (hs : Shp W) (hg : 1 < W.heap.size)
    (hd : Bs W GB B m data0) (hGB : ∀ k ∈ GB, k < W.heap.size) (hmd : m ≤ d) (hm : m ≤ 140737488355328) (hdm : d ≤ 9223372036854775807) :
    Does Tryz.prog 6 [.agg ⟨encEnd e⟩, .int .i64 to, .slice B m d] W (fun v w' => v = .bool true ∧ Only [] W w') := by
  obtain ⟨eh, ep⟩ := e
  have hep := and65535n (x := ep)
  have hpt := peerP_bd to
  have hA := Only.alloc (Only.refl [] W) (.cells ⟨encEnd (eh, ep)⟩ 66)
  have b3 := Blk.new W 66 ⟨encEnd (eh, ep)⟩
  have hzA := hA.size
  refine Does.enter (fn := Tryz.f6) (by kernel_rfl) rfl (by kernel_rfl) (by kernel_rfl) ?_
  conv => whnf
  refine (alive_does (hs.o hA) (Nat.lt_of_lt_of_le hg hzA)).mono ?_
  rintro v w1 ⟨rfl, ho1⟩
  conv => whnf
  refine wide_does.mono ?_
  rintro v w2 ⟨T, rfl, hT, hSt2, ho2⟩
  conv => whnf
  refine vStore.fresh (cs := cfC (wideC 3)) (by rw [cf_len (wideC_ok _)]; kernel_rfl) (by rw [cf_len (wideC_ok _)]; kernel_rfl) (one_cfC _) (fun w3 b8 ho3 hz3 => ?_)
  have hA3 := (ho1.t0 ho2).t0 ho3
  have hw3 := hA.t0 hA3
  have hSt3 := hSt2.o ho3
  have okc := wideC_ok 3
  have hTlt : T < w2.heap.size := hSt2.lt T (by simp)
  conv => whnf
  refine (short_does (k := 300) (hd.o hw3) hm hmd hdm).mono ?_
  rintro v w4 ⟨X, nX, cX, FX, rfl, hrX, ho4, hFX⟩
  obtain rfl := (Row.bs hrX).len
  have hw4 := hw3.t0 ho4
  generalize hdata : data0.take 300 = data at *
  have hdl : data.length ≤ 300 := by rw [← hdata, List.length_take]; omega
  conv => whnf
  refine (peer_does (k := to)).mono ?_
  rintro v w5 ⟨rfl, ho5⟩
  have hw5 := hw4.t0 ho5
  conv => whnf
  refine vStore.fresh (cs := adC (peerA to)) (by kernel_rfl) (by kernel_rfl) (one_adC _) (fun w6 b9 ho6 hz6 => ?_)
  have hw6 := hw5.t0 ho6
  have h36 : Only [] w3 w6 := (ho4.t0 ho5).t0 ho6
  have b86 := b8.only h36 (by simp)
  have hSt6 := hSt3.o h36
  have hrX6 := hrX.only (ho5.t0 ho6) (by simp)
  have b36 := b3.only (hA3.t0 h36) (by simp)
  have hzz1 := hA3.size
  have hzz2 := h36.size
  have hz12 := (ho1.t0 ho2).size
  have hz23 := ho3.size
  have hz34 := ho4.size
  have hz45 := ho5.size
  have hz56 := ho6.size
  have sX : Sep FX [T] w6 := fun k hk => ⟨fun hm => by
    have h1 := hFX k hk
    have h2 : k = T := by simpa using hm
    omega, hrX6.lt k hk⟩
  have hgT : 1 ∉ [T] := fun hm => by
    have h2 : 1 = T := by simpa using hm
    have := ho1.size
    omega
  clear hSt2 hSt3
  conv => whnf
  refine VDraw.abs fun N2 hN2 => ?_
  refine VDraw.held (fun w' => Only [] w6 w') [0, 2, 3, 5, 6, 1, 4, 7, 8] (by kernel_rfl) (by kernel_rfl) (Only.refl [] w6).drew ?_
  conv => whnf
  refine ⟨_, fun w' hw' => Loads.all (b36.only hw' (by simp)) (by kernel_rfl) (by kernel_rfl), ?_⟩
  conv => whnf
  refine ⟨_, fun w' hw' => Loads.all (b9.only hw' (by simp)) (by kernel_rfl) (by rw [adC_len (peer_ok to)]; kernel_rfl), ?_⟩
  conv => whnf
  refine ⟨_, fun w' hw' => Loads.all (b36.only hw' (by simp)) (by kernel_rfl) (by kernel_rfl), ?_⟩
  conv => whnf
  refine (endAddr_does (h := eh) (p := ep)).mono ?_
  rintro v wa ⟨rfl, hoa⟩
  have h6a : Only [] w6 wa := ((Only.refl [] w6).drew).t0 hoa
  refine ⟨h6a, ?_⟩
  conv => whnf
  refine (endPort_does (h := eh) (p := ep)).mono ?_
  rintro v wb ⟨rfl, hob⟩
  have h6b := h6a.t0 hob
  refine ⟨h6b, ?_⟩
  conv => whnf
  refine (datagram_does (kind := 0) (id := 5) (host_ok eh) (peer_ok to) (pair_hp eh to) rfl ((Row.bs hrX6).o h6b) (by omega) (hs.o (hw6.t0 h6b)) hep hpt (by decide)).mono ?_
  rintro v w7 ⟨Y, nY, cY, FY, rfl, hrY, ho7, hFY⟩
  obtain rfl := (Row.bs hrY).len
  have hLd : Laid (hostA eh) (peerA to) (andI .i64 ep 65535) (peerP to) data 0 _ := laid_of (k := 0) (id := 5) (host_is4 eh) (peer_is4 to) (pair_hp eh to) hep hpt (by decide) (show data.length ≤ 65000 by omega) (by decide)
  have hLd0 : Laid (hostA eh) (peerA to) (andI .i64 ep 65535) (peerP to) data 0 (datagramL (hostA eh) (peerA to) (andI .i64 ep 65535) (peerP to) data 0 5) := hLd
  clear hLd
  generalize datagramL (hostA eh) (peerA to) (andI .i64 ep 65535) (peerP to) data 0 5 = l at *
  have hll := hLd0.len
  have uY := hrY.lt
  have h67 : Only [] w6 w7 := h6b.t0 ho7
  refine ⟨h67, ?_⟩
  refine hN2 _ _ ?_
  have hw7 := hw6.t0 h67
  have hSt7 := hSt6.o h67
  have hz67 := h67.size
  have sX := sX.up hz67
  have yY : Sep FY [T] w7 := fun k hk => ⟨fun hm => by
    have h1 := hFY k hk
    have h2 : k = T := by simpa using hm
    have := h6b.size
    omega, hrY.lt k hk⟩
  have yX : ∀ k ∈ FY, w6.heap.size ≤ k := fun k hk => by
    have h1 := hFY k hk
    have := h6b.size
    omega
  have hX6 := hrX6.lt
  have hrX7 := hrX6.only h67 (by simp)
  have b87 := b86.only h67 (by simp)
  have b97 := b9.only h67 (by simp)
  clear hrX6 hSt6 b86 b9 b36 hN2
  have hne8 : w2.heap.size ∉ [T] := fun hm => by
    have h2 : w2.heap.size = T := by simpa using hm
    omega
  have hne9 : w5.heap.size ∉ [T] := fun hm => by
    have h2 : w5.heap.size = T := by simpa using hm
    omega
  have oI := new_inv okc (wideC_may 3)
  obtain ⟨r1, I1⟩ := out_first (p := 3) hLd0 (host_inside eh) (peer_outside to)
  obtain ⟨r2, -⟩ := out_again (p := 3) (t := 0) I1 (Int.le_refl _) (by decide) ⟨Int.le_refl _, Int.le_refl _⟩ (by decide) hLd0 (host_inside eh) (peer_outside to)
  obtain ⟨wd1, wd2, wd3, wd4, wd5⟩ := end_words (l := l) (k := 12) (a := fourD 192 0 2 1) (port := 4000) (.inl rfl) (by rw [hLd0.dlen]; omega) (by decide)
  have hlo : (endL l 12 (fourD 192 0 2 1) 4000 20).length = l.length := by
    have := wd1
    simp only [List.length_drop] at this
    omega
  have hw20 : wordL ((endL l 12 (fourD 192 0 2 1) 4000 20).drop 20) 0 = 4000 := wd2
  generalize hoo : endL l 12 (fourD 192 0 2 1) 4000 20 = o at *
  conv => whnf
  refine (out_does (now := 0) hSt7 oI.ok (Row.bs hrY) (fun k hk => (yY k hk).1) (hs.o hw7) hgT (by omega) hrY.le.1 (by have := hrY.le.2; unfold maxLen at this; exact this)).mono ?_
  rintro v w8 hE
  rw [r1] at hE
  obtain ⟨A, cA, FA, F1, rfl, hrA, hSt8, ho8, hF8, hFA⟩ := hE
  dsimp only at hrA hSt8
  have uA := hrA.lt
  have hz78 := ho8.size
  have hrX8 := hrX7.only ho8 (fun k hk => (sX k hk).1)
  have hrY8 := hrY.only ho8 (fun k hk => (yY k hk).1)
  have sX8 := sX.go hz78 hF8
  have yY8 := yY.go hz78 hF8
  have aA8 : Sep FA F1 w8 := fun k hk => ⟨(hFA k hk).2, hrA.lt k hk⟩
  have s8 : Sep [w2.heap.size] [T] w7 := fun k hk => by
    obtain rfl : k = w2.heap.size := by simpa using hk
    exact ⟨hne8, b87.lt⟩
  have s9 : Sep [w5.heap.size] [T] w7 := fun k hk => by
    obtain rfl : k = w5.heap.size := by simpa using hk
    exact ⟨hne9, b97.lt⟩
  have sg : Sep [1] [T] w7 := fun k hk => by
    obtain rfl : k = 1 := by simpa using hk
    have := hw7.size
    exact ⟨hgT, by omega⟩
  have b88 := b87.only ho8 (s8 _ (by simp)).1
  have b98 := b97.only ho8 (s9 _ (by simp)).1
  have s88 := s8.go hz78 hF8
  have s98 := s9.go hz78 hF8
  have sg8 := sg.go hz78 hF8
  have hWz7 := hw7.size
  have fW : ∀ k ∈ [T], W.heap.size ≤ k := fun k hk => by
    obtain rfl : k = T := by simpa using hk
    have := ho1.size
    omega
  have hW8 : Only [] W w8 := hw7.trans ho8 (fun k hk => .inr (fW k hk))
  have fW8 : ∀ k ∈ F1, W.heap.size ≤ k := fun k hk => by
    rcases hF8 k hk with h | h
    · exact fW k h
    · omega
  clear hrX7 hrY sX yY s8 s9 sg b87 b97 fW hne8 hne9 hgT hSt7
  conv => whnf
  refine (out_does (now := 0) hSt8 I1.ok (Row.bs hrY8) (fun k hk => (yY8 k hk).1) (hs.o hW8) (sg8 _ (by simp)).1 (by omega) hrY8.le.1 (by have := hrY8.le.2; unfold maxLen at this; exact this)).mono ?_
  rintro v w9 hE
  rw [r2] at hE
  obtain ⟨A2, cA2, FA2, F2, rfl, hrB, hSt9, ho9, hF9, hFB⟩ := hE
  dsimp only at hrB hSt9
  have uB := hrB.lt
  have hz89 := ho9.size
  have hrX9 := hrX8.only ho9 (fun k hk => (sX8 k hk).1)
  have hrY9 := hrY8.only ho9 (fun k hk => (yY8 k hk).1)
  have hrA9 := hrA.only ho9 (fun k hk => (aA8 k hk).1)
  have sX9 := sX8.go hz89 hF9
  have yY9 := yY8.go hz89 hF9
  have aA9 := aA8.go hz89 hF9
  have bB9 : Sep FA2 F2 w9 := fun k hk => ⟨(hFB k hk).2, hrB.lt k hk⟩
  have b89 := b88.only ho9 (s88 _ (by simp)).1
  have b99 := b98.only ho9 (s98 _ (by simp)).1
  have s89 := s88.go hz89 hF9
  have s99 := s98.go hz89 hF9
  have sg9 := sg8.go hz89 hF9
  have hW9 : Only [] W w9 := hW8.trans ho9 (fun k hk => .inr (fW8 k hk))
  have fW9 : ∀ k ∈ F2, W.heap.size ≤ k := fun k hk => by
    rcases hF9 k hk with h | h
    · exact fW8 k h
    · have := hW8.size
      omega
  clear hrX8 hrY8 hrA sX8 yY8 aA8 s88 s98 sg8 b88 b98 fW8 hSt8 hW8
  have hsame : sameL o o = true := by simp [sameL]
  refine splitB.abs fun N3 hN3 => ?_
  conv => whnf
  refine hN3 _ _ ?_
  refine vc.abs2 rfl fun N4 hN4 => ?_
  conv => whnf
  refine (same_does (Row.bs hrA9) (Row.bs hrB)).mono ?_
  rw [hsame]
  rintro v wc ⟨rfl, rfl⟩
  conv => whnf
  refine hN4 _ _ ?_
  refine vc.no (congrArg Value.bool (show ((o.length : Int) != (l.length : Int)) = false by rw [hlo]; exact bne_self_eq_false _)) ?_
  refine vc.skip ?_
  clear hN3 hN4
  conv => whnf
  refine (own_does (Row.bs hrA9) (by omega)).mono ?_
  rintro v w10 ⟨K, nK, cK, FK, rfl, hrK, ho10, hFK⟩
  obtain rfl := (Row.bs hrK).len
  have uK := hrK.lt
  conv => whnf
  refine (own_does (Row.bs (hrY9.only ho10 (by simp))) (by omega)).mono ?_
  rintro v w11 ⟨Z, nZ, cZ, FZ, rfl, hrZ, ho11, hFZ⟩
  obtain rfl := (Row.bs hrZ).len
  have uZ := hrZ.lt
  have hz910 := ho10.size
  have hz1011 := ho11.size
  have h911 := ho10.t0 ho11
  have hz9b := h911.size
  have hrX11 := hrX9.only h911 (by simp)
  have hrY11 := hrY9.only h911 (by simp)
  have hrA11 := hrA9.only h911 (by simp)
  have hrB11 := hrB.only h911 (by simp)
  have hrK11 := hrK.only ho11 (by simp)
  have hSt11 := hSt9.o h911
  have sX11 := sX9.up hz9b
  have yY11 := yY9.up hz9b
  have aA11 := aA9.up hz9b
  have bB11 := bB9.up hz9b
  have hF2lt := hSt9.lt
  have kK11 : Sep FK F2 w11 := fun k hk => ⟨fun hm => by
    have h1 := hFK k hk
    have h2 := hF2lt k hm
    omega, hrK11.lt k hk⟩
  have zZ11 : Sep FZ F2 w11 := fun k hk => ⟨fun hm => by
    have h1 := hFZ k hk
    have h2 := hF2lt k hm
    have := ho10.size
    omega, hrZ.lt k hk⟩
  have b811 := b89.only h911 (by simp)
  have b911 := b99.only h911 (by simp)
  have s811 := s89.up hz9b
  have s911 := s99.up hz9b
  have sg11 := sg9.up hz9b
  have hW11 := hW9.t0 h911
  clear hrX9 hrY9 hrA9 hrB hrK sX9 yY9 aA9 bB9 s89 s99 sg9 b89 b99 hSt9
  obtain ⟨bA, oA, rfl, -⟩ := (Row.bs hrA11).some_ (by omega)
  refine VDraw.abs fun N5 hN5 => ?_
  refine VDraw.q (by kernel_rfl) (by kernel_rfl) ?_
  conv => whnf
  refine ⟨_, _, rfl, 20, oA + 20, rfl, by show 20 < o.length; omega, p1 _ _, ?_⟩
  conv => whnf
  refine ⟨_, fun w' hw' => Loads.one (by kernel_rfl) (Bs.ld ((Row.bs hrA11).o hw') (getD_some (by omega))), ?_⟩
  conv => whnf
  refine ⟨_, _, rfl, 21, oA + 21, rfl, by show 21 < o.length; omega, p1 _ _, ?_⟩
  conv => whnf
  refine ⟨_, fun w' hw' => Loads.one (by kernel_rfl) (Bs.ld ((Row.bs hrA11).o hw') (getD_some (by omega))), ?_⟩
  have eW : orI .i64 (IntKind.i64.wrap (IntKind.i64.wrap ((o.getD 20 0).toNat : Int) * pw 8 .i64)) (IntKind.i64.wrap ((o.getD 21 0).toNat : Int)) = 4000 := by
    rw [or_word64, ← hw20]
    unfold wordL
    simp [List.getD_eq_getElem?_getD, List.getElem?_drop]
  conv => whnf
  rw [eW]
  intro wz hoz
  refine hN5 _ _ ?_
  clear hN5 N5
  have hzz := hoz.size
  have hrX12 := hrX11.only hoz (by simp)
  have hrY12 := hrY11.only hoz (by simp)
  have hrA12 := hrA11.only hoz (by simp)
  have hrB12 := hrB11.only hoz (by simp)
  have hrK12 := hrK11.only hoz (by simp)
  have hrZ12 := hrZ.only hoz (by simp)
  have hSt12 := hSt11.o hoz
  have b812 := b811.only hoz (by simp)
  have b912 := b911.only hoz (by simp)
  have hW12 := hW11.t0 hoz
  have sX12 := sX11.up hzz
  have yY12 := yY11.up hzz
  have aA12 := aA11.up hzz
  have bB12 := bB11.up hzz
  have kK12 := kK11.up hzz
  have zZ12 := zZ11.up hzz
  have s812 := s811.up hzz
  have s912 := s911.up hzz
  have sg12 := sg11.up hzz
  clear hrX11 hrY11 hrA11 hrB11 hrK11 hrZ hSt11 b811 b911 sX11 yY11 aA11 bB11 kK11 zZ11 s811 s911 sg11 hW11
  conv => whnf
  refine ⟨_, Loads.all b912 (by kernel_rfl) (by rw [adC_len (peer_ok to)]; kernel_rfl), ?_⟩
  conv => whnf
  refine ⟨_, b812.cfOutside okc, ?_⟩
  conv => whnf
  refine (datagram_does (kind := 0) (id := 5) (peer_ok to) (fourD_ok 192 0 2 1) (pair_po to) rfl (Row.bs hrX12) (by omega) (hs.o hW12) hpt (by decide) (by decide)).mono ?_
  rintro v w13 ⟨R, nR, cR, FR, rfl, hrR, ho13, hFR⟩
  obtain rfl := (Row.bs hrR).len
  have hLr : Laid (peerA to) (fourD 192 0 2 1) (peerP to) 4000 data 0 _ := laid_of (k := 0) (id := 5) (peer_is4 to) (is4_four 192 0 2 1) (pair_po to) hpt (by decide) (by decide) (show data.length ≤ 65000 by omega) (by decide)
  have hLr0 : Laid (peerA to) (fourD 192 0 2 1) (peerP to) 4000 data 0 (datagramL (peerA to) (fourD 192 0 2 1) (peerP to) 4000 data 0 5) := hLr
  clear hLr
  generalize datagramL (peerA to) (fourD 192 0 2 1) (peerP to) 4000 data 0 5 = rl at *
  have hlr := hLr0.len
  have hF12lt := hSt12.lt
  have zz13 := ho13.size
  have hrX13 := hrX12.only ho13 (by simp)
  have sX13 := sX12.up zz13
  have hrY13 := hrY12.only ho13 (by simp)
  have yY13 := yY12.up zz13
  have hrA13 := hrA12.only ho13 (by simp)
  have aA13 := aA12.up zz13
  have hrB13 := hrB12.only ho13 (by simp)
  have bB13 := bB12.up zz13
  have hrK13 := hrK12.only ho13 (by simp)
  have kK13 := kK12.up zz13
  have hrZ13 := hrZ12.only ho13 (by simp)
  have zZ13 := zZ12.up zz13
  have hSt13 := hSt12.o ho13
  have b813 := b812.only ho13 (by simp)
  have s813 := s812.up zz13
  have b913 := b912.only ho13 (by simp)
  have s913 := s912.up zz13
  have sg13 := sg12.up zz13
  have hW13 := hW12.t0 ho13
  clear hrX12 sX12 hrY12 yY12 hrA12 aA12 hrB12 bB12 hrK12 kK12 hrZ12 zZ12 hSt12 b812 b912 s812 s912 sg12 hW12
  have hrR13 := hrR
  have rR13 : Sep FR F2 w13 := fun k hk => ⟨fun hm => by
    have h1 := hFR k hk
    have h2 := hF12lt k hm
    omega, hrR.lt k hk⟩
  have uR := hrR.lt
  clear hrR
  obtain ⟨q1, -⟩ := came_one (p := 3) (t := 0) I1 (Int.le_refl _) (by decide) ⟨Int.le_refl _, Int.le_refl _⟩ (by decide) hLr0 (peer_outside to)
  obtain ⟨we1, we2, we3, we4, we5⟩ := end_words (l := rl) (k := 16) (a := hostA eh) (port := andI .i64 ep 65535) (.inr rfl) (by rw [hLr0.dlen]; omega) hep
  have hlx : (endL rl 16 (hostA eh) (andI .i64 ep 65535) 20).length = rl.length := by
    have := we1
    simp only [List.length_drop] at this
    omega
  generalize hxx : endL rl 16 (hostA eh) (andI .i64 ep 65535) 20 = x at *
  conv => whnf
  refine (in_does (now := 0) hSt13 I1.ok (Row.bs hrR13) (fun k hk => (rR13 k hk).1) (hs.o hW13) (sg13 _ (by simp)).1 (by omega) hrR13.le.1 (by have := hrR13.le.2; unfold maxLen at this; exact this)).mono ?_
  rintro v w14 hE
  rw [q1] at hE
  obtain ⟨A3, cA3, FA3, F14, rfl, hrP14, hSt14, ho14, hF14, hFP⟩ := hE
  dsimp only at hrP14 hSt14
  have zz14 := ho14.size
  have hrX14 := hrX13.only ho14 (fun k hk => (sX13 k hk).1)
  have sX14 := sX13.go zz14 hF14
  have hrY14 := hrY13.only ho14 (fun k hk => (yY13 k hk).1)
  have yY14 := yY13.go zz14 hF14
  have hrA14 := hrA13.only ho14 (fun k hk => (aA13 k hk).1)
  have aA14 := aA13.go zz14 hF14
  have hrB14 := hrB13.only ho14 (fun k hk => (bB13 k hk).1)
  have bB14 := bB13.go zz14 hF14
  have hrK14 := hrK13.only ho14 (fun k hk => (kK13 k hk).1)
  have kK14 := kK13.go zz14 hF14
  have hrZ14 := hrZ13.only ho14 (fun k hk => (zZ13 k hk).1)
  have zZ14 := zZ13.go zz14 hF14
  have hrR14 := hrR13.only ho14 (fun k hk => (rR13 k hk).1)
  have rR14 := rR13.go zz14 hF14
  have b814 := b813.only ho14 (s813 _ (by simp)).1
  have s814 := s813.go zz14 hF14
  have b914 := b913.only ho14 (s913 _ (by simp)).1
  have s914 := s913.go zz14 hF14
  have sg14 := sg13.go zz14 hF14
  have hW14 : Only [] W w14 := hW13.trans ho14 (fun k hk => .inr (fW9 k hk))
  have fW14 : ∀ k ∈ F14, W.heap.size ≤ k := fun k hk => by
    rcases hF14 k hk with h | h
    · exact fW9 k h
    · have := hW13.size
      omega
  clear hrX13 sX13 hrY13 yY13 hrA13 aA13 hrB13 bB13 hrK13 kK13 hrZ13 zZ13 hrR13 rR13 hSt13 b813 b913 s813 s913 sg13 hW13
  have uP := hrP14.lt
  have pP14 : Sep FA3 F14 w14 := fun k hk => ⟨(hFP k hk).2, hrP14.lt k hk⟩
  refine splitB.abs fun N6 hN6 => ?_
  conv => whnf
  refine hN6 _ _ ?_
  clear hN6
  conv => whnf
  refine (in_does (now := 0) hSt14 I1.ok (Row.bs hrR14) (fun k hk => (rR14 k hk).1) (hs.o hW14) (sg14 _ (by simp)).1 (by omega) hrR14.le.1 (by have := hrR14.le.2; unfold maxLen at this; exact this)).mono ?_
  rintro v w15 hE
  rw [q1] at hE
  obtain ⟨A4, cA4, FA4, F15, rfl, hrQ15, hSt15, ho15, hF15, hFQ⟩ := hE
  dsimp only at hrQ15 hSt15
  have zz15 := ho15.size
  have hrX15 := hrX14.only ho15 (fun k hk => (sX14 k hk).1)
  have sX15 := sX14.go zz15 hF15
  have hrY15 := hrY14.only ho15 (fun k hk => (yY14 k hk).1)
  have yY15 := yY14.go zz15 hF15
  have hrA15 := hrA14.only ho15 (fun k hk => (aA14 k hk).1)
  have aA15 := aA14.go zz15 hF15
  have hrB15 := hrB14.only ho15 (fun k hk => (bB14 k hk).1)
  have bB15 := bB14.go zz15 hF15
  have hrK15 := hrK14.only ho15 (fun k hk => (kK14 k hk).1)
  have kK15 := kK14.go zz15 hF15
  have hrZ15 := hrZ14.only ho15 (fun k hk => (zZ14 k hk).1)
  have zZ15 := zZ14.go zz15 hF15
  have hrR15 := hrR14.only ho15 (fun k hk => (rR14 k hk).1)
  have rR15 := rR14.go zz15 hF15
  have hrP15 := hrP14.only ho15 (fun k hk => (pP14 k hk).1)
  have pP15 := pP14.go zz15 hF15
  have b815 := b814.only ho15 (s814 _ (by simp)).1
  have s815 := s814.go zz15 hF15
  have b915 := b914.only ho15 (s914 _ (by simp)).1
  have s915 := s914.go zz15 hF15
  have sg15 := sg14.go zz15 hF15
  have hW15 : Only [] W w15 := hW14.trans ho15 (fun k hk => .inr (fW14 k hk))
  have fW15 : ∀ k ∈ F15, W.heap.size ≤ k := fun k hk => by
    rcases hF15 k hk with h | h
    · exact fW14 k h
    · have := hW14.size
      omega
  clear hrX14 sX14 hrY14 yY14 hrA14 aA14 hrB14 bB14 hrK14 kK14 hrZ14 zZ14 hrR14 rR14 hrP14 pP14 hSt14 b814 b914 s814 s914 sg14 hW14
  have uQ := hrQ15.lt
  have qQ15 : Sep FA4 F15 w15 := fun k hk => ⟨(hFQ k hk).2, hrQ15.lt k hk⟩
  have hsamx : sameL x x = true := by simp [sameL]
  refine splitB.abs fun N6 hN6 => ?_
  conv => whnf
  refine hN6 _ _ ?_
  clear hN6
  refine vc.abs2 rfl fun N7 hN7 => ?_
  conv => whnf
  refine (same_does (Row.bs hrP15) (Row.bs hrQ15)).mono ?_
  rw [hsamx]
  rintro v wc2 ⟨rfl, rfl⟩
  conv => whnf
  refine hN7 _ _ ?_
  refine vc.no rfl ?_
  refine vc.skip ?_
  clear hN7 N7
  conv => whnf

  have hal := (Only.refl [] w15).alloc (.cells ⟨[Value.slice (some ⟨bA, oA, none⟩) o.length cA, Value.slice A2 o.length cA2, Value.slice A3 x.length cA3, Value.slice A4 x.length cA4, Value.slice Y l.length cY, Value.slice R rl.length cR]⟩ 38)
  have hcase : ∀ (j : Nat) (y : Lst), ([(⟨(some ⟨bA, oA, none⟩), o.length, cA, FA⟩ : Lst), (⟨A2, o.length, cA2, FA2⟩ : Lst), (⟨A3, x.length, cA3, FA3⟩ : Lst), (⟨A4, x.length, cA4, FA4⟩ : Lst), (⟨Y, l.length, cY, FY⟩ : Lst), (⟨R, rl.length, cR, FR⟩ : Lst)] : List Lst)[j]? = some y → (j = 0 ∧ y = ⟨(some ⟨bA, oA, none⟩), o.length, cA, FA⟩) ∨ (j = 1 ∧ y = ⟨A2, o.length, cA2, FA2⟩) ∨ (j = 2 ∧ y = ⟨A3, x.length, cA3, FA3⟩) ∨ (j = 3 ∧ y = ⟨A4, x.length, cA4, FA4⟩) ∨ (j = 4 ∧ y = ⟨Y, l.length, cY, FY⟩) ∨ (j = 5 ∧ y = ⟨R, rl.length, cR, FR⟩) := fun j y hy => by
    match j, hy with
    | 0, hy => exact .inl ⟨rfl, (Option.some.inj hy).symm⟩
    | 1, hy => exact .inr (.inl ⟨rfl, (Option.some.inj hy).symm⟩)
    | 2, hy => exact .inr (.inr (.inl ⟨rfl, (Option.some.inj hy).symm⟩))
    | 3, hy => exact .inr (.inr (.inr (.inl ⟨rfl, (Option.some.inj hy).symm⟩)))
    | 4, hy => exact .inr (.inr (.inr (.inr (.inl ⟨rfl, (Option.some.inj hy).symm⟩))))
    | 5, hy => exact .inr (.inr (.inr (.inr (.inr (⟨rfl, (Option.some.inj hy).symm⟩)))))
    | n + 6, hy => cases hy
  have iv0 : ∀ k ∈ FA, w7.heap.size ≤ k ∧ k < w8.heap.size := fun k hk => ⟨(hFA k hk).1, uA k hk⟩
  have iv1 : ∀ k ∈ FA2, w8.heap.size ≤ k ∧ k < w9.heap.size := fun k hk => ⟨(hFB k hk).1, uB k hk⟩
  have iv2 : ∀ k ∈ FA3, w13.heap.size ≤ k ∧ k < w14.heap.size := fun k hk => ⟨(hFP k hk).1, uP k hk⟩
  have iv3 : ∀ k ∈ FA4, w14.heap.size ≤ k ∧ k < w15.heap.size := fun k hk => ⟨(hFQ k hk).1, uQ k hk⟩
  have iv4 : ∀ k ∈ FY, w6.heap.size ≤ k ∧ k < w7.heap.size := fun k hk => ⟨yX k hk, uY k hk⟩
  have iv5 : ∀ k ∈ FR, wz.heap.size ≤ k ∧ k < w13.heap.size := fun k hk => ⟨hFR k hk, uR k hk⟩
  have ivK : ∀ k ∈ FK, w9.heap.size ≤ k ∧ k < w10.heap.size := fun k hk => ⟨hFK k hk, uK k hk⟩
  have ivZ : ∀ k ∈ FZ, w10.heap.size ≤ k ∧ k < w11.heap.size := fun k hk => ⟨hFZ k hk, uZ k hk⟩
  refine (marked_does (L := [(⟨(some ⟨bA, oA, none⟩), o.length, cA, FA⟩ : Lst), (⟨A2, o.length, cA2, FA2⟩ : Lst), (⟨A3, x.length, cA3, FA3⟩ : Lst), (⟨A4, x.length, cA4, FA4⟩ : Lst), (⟨Y, l.length, cY, FY⟩ : Lst), (⟨R, rl.length, cR, FR⟩ : Lst)]) (G := [w15.heap.size]) (Sl.new w15 38 1 _ 6 rfl) (by show 6 ≤ 1000; decide) (fun j y hy => ?_) (fun i j y y' hy hy' hne k hk hm => ?_)).mono ?_
  · have hb := hal.size
    rcases hcase j y hy with ⟨rfl, rfl⟩ | ⟨rfl, rfl⟩ | ⟨rfl, rfl⟩ | ⟨rfl, rfl⟩ | ⟨rfl, rfl⟩ | ⟨rfl, rfl⟩
    · exact ⟨by show o.length ≤ 1000000; omega, fun k hk hm => by
        have h1 := iv0 k hk
        have h2 : k = w15.heap.size := by simpa using hm
        omega, _, hrA15.alloc _⟩
    · exact ⟨by show o.length ≤ 1000000; omega, fun k hk hm => by
        have h1 := iv1 k hk
        have h2 : k = w15.heap.size := by simpa using hm
        omega, _, hrB15.alloc _⟩
    · exact ⟨by show x.length ≤ 1000000; omega, fun k hk hm => by
        have h1 := iv2 k hk
        have h2 : k = w15.heap.size := by simpa using hm
        omega, _, hrP15.alloc _⟩
    · exact ⟨by show x.length ≤ 1000000; omega, fun k hk hm => by
        have h1 := iv3 k hk
        have h2 : k = w15.heap.size := by simpa using hm
        omega, _, hrQ15.alloc _⟩
    · exact ⟨by show l.length ≤ 1000000; omega, fun k hk hm => by
        have h1 := iv4 k hk
        have h2 : k = w15.heap.size := by simpa using hm
        omega, _, hrY15.alloc _⟩
    · exact ⟨by show rl.length ≤ 1000000; omega, fun k hk hm => by
        have h1 := iv5 k hk
        have h2 : k = w15.heap.size := by simpa using hm
        omega, _, hrR15.alloc _⟩
  · rcases hcase i y hy with ⟨rfl, rfl⟩ | ⟨rfl, rfl⟩ | ⟨rfl, rfl⟩ | ⟨rfl, rfl⟩ | ⟨rfl, rfl⟩ | ⟨rfl, rfl⟩
    all_goals rcases hcase j y' hy' with ⟨rfl, rfl⟩ | ⟨rfl, rfl⟩ | ⟨rfl, rfl⟩ | ⟨rfl, rfl⟩ | ⟨rfl, rfl⟩ | ⟨rfl, rfl⟩
    · exact absurd rfl hne
    · have h1 := iv0 k hk
      have h2 := iv1 k hm
      omega
    · have h1 := iv0 k hk
      have h2 := iv2 k hm
      omega
    · have h1 := iv0 k hk
      have h2 := iv3 k hm
      omega
    · have h1 := iv0 k hk
      have h2 := iv4 k hm
      omega
    · have h1 := iv0 k hk
      have h2 := iv5 k hm
      omega
    · have h1 := iv1 k hk
      have h2 := iv0 k hm
      omega
    · exact absurd rfl hne
    · have h1 := iv1 k hk
      have h2 := iv2 k hm
      omega
    · have h1 := iv1 k hk
      have h2 := iv3 k hm
      omega
    · have h1 := iv1 k hk
      have h2 := iv4 k hm
      omega
    · have h1 := iv1 k hk
      have h2 := iv5 k hm
      omega
    · have h1 := iv2 k hk
      have h2 := iv0 k hm
      omega
    · have h1 := iv2 k hk
      have h2 := iv1 k hm
      omega
    · exact absurd rfl hne
    · have h1 := iv2 k hk
      have h2 := iv3 k hm
      omega
    · have h1 := iv2 k hk
      have h2 := iv4 k hm
      omega
    · have h1 := iv2 k hk
      have h2 := iv5 k hm
      omega
    · have h1 := iv3 k hk
      have h2 := iv0 k hm
      omega
    · have h1 := iv3 k hk
      have h2 := iv1 k hm
      omega
    · have h1 := iv3 k hk
      have h2 := iv2 k hm
      omega
    · exact absurd rfl hne
    · have h1 := iv3 k hk
      have h2 := iv4 k hm
      omega
    · have h1 := iv3 k hk
      have h2 := iv5 k hm
      omega
    · have h1 := iv4 k hk
      have h2 := iv0 k hm
      omega
    · have h1 := iv4 k hk
      have h2 := iv1 k hm
      omega
    · have h1 := iv4 k hk
      have h2 := iv2 k hm
      omega
    · have h1 := iv4 k hk
      have h2 := iv3 k hm
      omega
    · exact absurd rfl hne
    · have h1 := iv4 k hk
      have h2 := iv5 k hm
      omega
    · have h1 := iv5 k hk
      have h2 := iv0 k hm
      omega
    · have h1 := iv5 k hk
      have h2 := iv1 k hm
      omega
    · have h1 := iv5 k hk
      have h2 := iv2 k hm
      omega
    · have h1 := iv5 k hk
      have h2 := iv3 k hm
      omega
    · have h1 := iv5 k hk
      have h2 := iv4 k hm
      omega
    · exact absurd rfl hne
  rintro v w16 ⟨O, dO, FO, z, rfl, hrO, hzl, hFO, ho16, hmarks⟩

  have h1516 := hal.zf ho16
  have hmarks : ∀ (j : Nat) y, ([(⟨(some ⟨bA, oA, none⟩), o.length, cA, FA⟩ : Lst), (⟨A2, o.length, cA2, FA2⟩ : Lst), (⟨A3, x.length, cA3, FA3⟩ : Lst), (⟨A4, x.length, cA4, FA4⟩ : Lst), (⟨Y, l.length, cY, FY⟩ : Lst), (⟨R, rl.length, cR, FR⟩ : Lst)] : List Lst)[j]? = some y → ∃ (g : Lst) (Gj : List Nat), z[j]? = some ⟨y, g, mkB j⟩ ∧ g.n = y.n + 80 ∧ Full w16 Gj y.A y.n (mkB j) ∧ Full w16 Gj g.A g.n (mkB j) ∧ ∀ k ∈ Gj, k ∈ y.F ∨ w15.heap.size ≤ k ∧ k < w16.heap.size := fun j y hy => by
    obtain ⟨g, Gj, h1, h2, h3, h4, h5⟩ := hmarks j y hy
    exact ⟨g, Gj, h1, h2, h3, h4, fun k hk => (h5 k hk).imp id (fun h => ⟨Nat.le_trans hal.size h.1, h.2⟩)⟩
  have hzz16 : w15.heap.size ≤ w16.heap.size := Nat.le_trans hal.size ho16.size
  have hFOz : ∀ k ∈ FO, w15.heap.size ≤ k := fun k hk => Nat.le_trans hal.size (hFO k hk)
  generalize hLL : [(⟨(some ⟨bA, oA, none⟩), o.length, cA, FA⟩ : Lst), (⟨A2, o.length, cA2, FA2⟩ : Lst), (⟨A3, x.length, cA3, FA3⟩ : Lst), (⟨A4, x.length, cA4, FA4⟩ : Lst), (⟨Y, l.length, cY, FY⟩ : Lst), (⟨R, rl.length, cR, FR⟩ : Lst)] = LL at *
  have hEb : ∀ k ∈ LL.flatMap (·.F), k ∉ F15 ∧ w6.heap.size ≤ k ∧ k < w15.heap.size ∧ (k < w9.heap.size ∨ wz.heap.size ≤ k) := fun k hm => by
    rw [← hLL] at hm
    simp only [List.flatMap_cons, List.flatMap_nil, List.append_nil, List.mem_append] at hm
    rcases hm with h | h | h | h | h | h
    · obtain ⟨h1, h2⟩ := aA15 k h
      have h3 := iv0 k h
      exact ⟨h1, by omega, h2, by omega⟩
    · obtain ⟨h1, h2⟩ := bB15 k h
      have h3 := iv1 k h
      exact ⟨h1, by omega, h2, by omega⟩
    · obtain ⟨h1, h2⟩ := pP15 k h
      have h3 := iv2 k h
      exact ⟨h1, by omega, h2, by omega⟩
    · obtain ⟨h1, h2⟩ := qQ15 k h
      have h3 := iv3 k h
      exact ⟨h1, by omega, h2, by omega⟩
    · obtain ⟨h1, h2⟩ := yY15 k h
      have h3 := iv4 k h
      exact ⟨h1, by omega, h2, by omega⟩
    · obtain ⟨h1, h2⟩ := rR15 k h
      have h3 := iv5 k h
      exact ⟨h1, by omega, h2, by omega⟩
  have hF15lt := hSt15.lt
  have hM16 : Marks w16 F15 w16.heap.size LL z := fun j y hy => by
    obtain ⟨g, Gj, h1, h2, h3, h4, h5⟩ := hmarks j y hy
    refine ⟨g, Gj, h1, h2, h3, h4, fun k hk => ?_⟩
    rcases h5 k hk with h | h
    · obtain ⟨k1, -, k2, -⟩ := hEb k (List.mem_flatMap.2 ⟨y, List.mem_of_getElem? hy, h⟩)
      exact ⟨k1, by omega⟩
    · refine ⟨fun hm => ?_, h.2⟩
      have h6 := hF15lt k hm
      omega
  have hSt16 := hSt15.only h1516 (fun k hk hm => (hEb k hm).1 hk)
  have hrK16 := hrK15.only h1516 (fun k hk hm => by
    have h1 := hEb k hm
    have h2 := ivK k hk
    omega)
  have hrZ16 := hrZ15.only h1516 (fun k hk hm => by
    have h1 := hEb k hm
    have h2 := ivZ k hk
    omega)
  have kK16 := kK15.up hzz16
  have zZ16 := zZ15.up hzz16
  have sg16 := sg15.up hzz16
  have hW16 : Only [] W w16 := hW15.trans h1516 (fun k hk => .inr (by
    have h1 := hEb k hk
    have h2 := hw6.size
    omega))
  have hLn : ∀ y ∈ LL, y.n ≤ 1000000 := fun y hy => by
    obtain ⟨j, hj⟩ := List.getElem?_of_mem hy
    rcases hcase j y hj with ⟨rfl, rfl⟩ | ⟨rfl, rfl⟩ | ⟨rfl, rfl⟩ | ⟨rfl, rfl⟩ | ⟨rfl, rfl⟩ | ⟨rfl, rfl⟩
    · show o.length ≤ 1000000
      omega
    · show o.length ≤ 1000000
      omega
    · show x.length ≤ 1000000
      omega
    · show x.length ≤ 1000000
      omega
    · show l.length ≤ 1000000
      omega
    · show rl.length ≤ 1000000
      omega
  have hLl : LL.length = 6 := by rw [← hLL]; rfl
  clear hmarks hcase hrX15 hrY15 hrA15 hrB15 hrP15 hrQ15 hrR15 sX15 yY15 aA15 bB15 pP15 qQ15 rR15 b815 b915 s815 s915 hSt15 hrK15 hrZ15 kK15 zZ15 sg15
  conv => whnf
  refine (maps_small hSt16 I1.ok (by show 1 ≤ 12; decide)).mono ?_
  rintro v w17 ⟨z1, M, nM, cM, FM, rfl, hp1, -, hrM, ho17, hFM⟩
  obtain rfl : z1 = [⟨hostA eh, andI .i64 ep 65535, 4000, 0⟩] := List.perm_singleton.1 hp1
  obtain rfl : 1 = nM := hrM.sl.num nmC_len (by decide)
  conv => whnf
  refine (maps_small (hSt16.o ho17) I1.ok (by show 1 ≤ 12; decide)).mono ?_
  rintro v w18 ⟨z2, M2, nM2, cM2, FM2, rfl, hp2, -, hrM2, ho18, hFM2⟩
  obtain rfl : z2 = [⟨hostA eh, andI .i64 ep 65535, 4000, 0⟩] := List.perm_singleton.1 hp2
  obtain rfl : 1 = nM2 := hrM2.sl.num nmC_len (by decide)
  have hzz17 := ho17.size
  have hzz18 := ho18.size
  have hrM18 := hrM.only ho18 (by simp)
  obtain ⟨gM, rfl, rfl, -⟩ := hrM18.cellAt (j := 0) (u := _) rfl
  obtain ⟨hst, hrM19, ho19⟩ := Row.putAt (P := Tryz.prog) (t := 3) (i := 0) (j := 17) (x := ⟨hostA eh, -1, 4000, 0⟩) (v := .int .i64 (-1)) hrM18 nmC_len (by kernel_rfl) rfl (by show 0 < 1; decide) rfl (by decide) (nmC_port ⟨hostA eh, andI .i64 ep 65535, 4000, 0⟩ (-1))
  have hgM : w16.heap.size ≤ gM := hFM gM (by simp)
  have hgM2 : gM < w17.heap.size := hrM.lt gM (by simp)
  have hlM2 : ∀ k ∈ FM2, gM ≠ k := fun k hk => by
    have := hFM2 k hk
    omega
  have h1618 := ho17.t0 ho18
  refine ⟨_, _, rfl, 0, 0, rfl, by decide, rfl, ?_⟩
  conv => whnf
  refine ⟨_, hst, ?_⟩
  generalize hw19 : w18.setCell ⟨gM, 0 * 20 + 17, none⟩ (.int .i64 (-1)) = w19 at *
  have hz19 : w19.heap.size = w18.heap.size := by rw [← hw19]; exact World.size_setCell w18 _ _
  conv => whnf
  refine vFall.append 48 20 48 rfl (by kernel_rfl) rfl (hrM19.alloc _) rfl (Sl.new w19 48 20 (nmC ⟨(0, z16), 0, 1, 0⟩) 1 rfl) (fun u hu => cell_of_one (one_nmC _ u hu)) (by decide) (by decide) ?_
  intro A20 c20 F20 w20 hr20 ho20 hF20
  have hal20 := (Only.refl [] w19).alloc (.cells ⟨nmC ⟨(0, z16), 0, 1, 0⟩⟩ 48)
  have hG : Only [gM] w18 w20 := ho19.ff (hal20.zf ho20)
  have hz20 : w18.heap.size ≤ w20.heap.size := hG.size
  have hSt20 := (hSt16.o h1618).only hG (fun k hk hm => by
    have h1 := hSt16.lt k hk
    have h2 : k = gM := by simpa using hm
    omega)
  have hrZ20 := (hrZ16.only h1618 (by simp)).only hG (fun k hk hm => by
    have h1 := (zZ16 k hk).2
    have h2 : k = gM := by simpa using hm
    omega)
  have hrK20 := (hrK16.only h1618 (by simp)).only hG (fun k hk hm => by
    have h1 := (kK16 k hk).2
    have h2 : k = gM := by simpa using hm
    omega)
  have hrM220 := hrM2.only hG (fun k hk hm => by
    have h2 : k = gM := by simpa using hm
    exact hlM2 k hk h2.symm)
  have hM20 := (hM16.go (F' := F15) h1618 (by simp) (fun k hk => .inl hk)).go (F' := F15) hG (fun k hk => .inr (by
    obtain rfl : k = gM := by simpa using hk
    exact hgM)) (fun k hk => .inl hk)
  have hrO20 := (hrO.only h1618 (by simp)).only hG (fun k hk hm => by
    have h1 := hrO.lt k hk
    have h2 : k = gM := by simpa using hm
    omega)
  have hOF : ∀ k ∈ FO, k ∉ F15 := fun k hk hm => by
    have h1 := hFOz k hk
    have h2 := hF15lt k hm
    omega
  have hW20 : Only [] W w20 := (hW16.t0 h1618).trans hG (fun k hk => .inr (by
    have h2 : k = gM := by simpa using hk
    have h3 := hW16.size
    omega))
  have sg20 := sg16.up (show w16.heap.size ≤ w20.heap.size by omega)
  have zZ20 := zZ16.up (show w16.heap.size ≤ w20.heap.size by omega)
  have kK20 := kK16.up (show w16.heap.size ≤ w20.heap.size by omega)
  have m2F : ∀ k ∈ FM2, k ∉ F15 := fun k hk hm => by
    have h1 := hFM2 k hk
    have h2 := hF15lt k hm
    omega
  conv => whnf
  refine (out_does (now := 0) hSt20 I1.ok (Row.bs hrZ20) (fun k hk => (zZ20 k hk).1) (hs.o hW20) (sg20 _ (by simp)).1 (by omega) hrZ20.le.1 (by have := hrZ20.le.2; unfold maxLen at this; exact this)).mono ?_
  rintro v w21 hE
  rw [r2] at hE
  obtain ⟨V, cV, FV, F21, rfl, hrV, hSt21, ho21, hF21, hFV⟩ := hE
  dsimp only at hrV hSt21
  have hrK21 := hrK20.only ho21 (fun k hk => (kK20 k hk).1)
  have hrM221 := hrM220.only ho21 m2F
  have hM21 := hM20.go (F' := F15) ho21 (fun k hk => .inl hk) (fun k hk => .inl hk)
  have hrO21 := hrO20.only ho21 hOF
  have hW21 : Only [] W w21 := hW20.trans ho21 (fun k hk => .inr (fW15 k hk))
  refine splitB.abs fun N6 hN6 => ?_
  conv => whnf
  refine hN6 _ _ ?_
  clear hN6
  conv => whnf
  have hsl := still_does (c := dO) (z := z) (by rw [hzl]; exact hrO21.sl) (hM21.still hzl hLn) (by omega)
  rw [hzl] at hsl
  refine hsl.mono ?_
  rintro v w22 ⟨rfl, ho22⟩
  conv => whnf
  refine (same_does ((Row.bs hrV).o ho22) ((Row.bs hrK21).o ho22)).mono ?_
  rw [hsame]
  rintro v w23 ⟨rfl, rfl⟩
  conv => whnf
  refine (maps_small (hSt21.o ho22) I1.ok (by show 1 ≤ 12; decide)).mono ?_
  rintro v w23 ⟨z3, M3, nM3, cM3, FM3, rfl, hp3, -, hrM3, ho23, hFM3⟩
  obtain rfl : z3 = [⟨hostA eh, andI .i64 ep 65535, 4000, 0⟩] := List.perm_singleton.1 hp3
  have hokm : ∀ y ∈ [(⟨hostA eh, andI .i64 ep 65535, 4000, 0⟩ : Nm)], okNm y := fun y hy => by
    obtain rfl := List.mem_singleton.1 hy
    exact ⟨host_ok eh, ⟨by show -9223372036854775808 ≤ andI .i64 ep 65535; omega, by show andI .i64 ep 65535 ≤ 9223372036854775807; omega⟩, ⟨by show (-9223372036854775808 : Int) ≤ 4000; decide, by show (4000 : Int) ≤ 9223372036854775807; decide⟩, ⟨by show (-9223372036854775808 : Int) ≤ 0; decide, by show (0 : Int) ≤ 9223372036854775807; decide⟩⟩
  conv => whnf
  refine (sameMaps_does hrM3.sl ((hrM221.only ho22 (by simp)).only ho23 (by simp)).sl hokm hokm (by have := hrM3.sl.num nmC_len (by decide); simp at this; omega)).mono ?_
  rw [decide_eq_true rfl]
  rintro v w24 ⟨rfl, ho24⟩
  conv => whnf
  exact ⟨rfl, ((hW21.t0 ho22).t0 ho23).t0 ho24⟩
end Go.Proofs.YtofomopdaponbaaGreatDoor
