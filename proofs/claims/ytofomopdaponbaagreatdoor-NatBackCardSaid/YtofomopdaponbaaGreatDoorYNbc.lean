/-
  NatBack, walked.
-/
import Derived.Test.YtofomopdaponbaaGreatDoorYNen
namespace Go.Proofs.YtofomopdaponbaaGreatDoor
open Go.RowKit
set_option linter.unusedVariables false
set_option linter.unusedSimpArgs false

set_option maxHeartbeats 4000000 in
set_option maxRecDepth 100000 in
theorem natBack_does {W : World} {A B : Option Addr} {n c m d : Nat} {G GB : List Nat} {z : List (Int × Int)} {to kind wait : Int} {data0 : List UInt8} (hs : Shp W) (hg : 1 < W.heap.size) (hz : Sl W 2 G A n (z.flatMap encEnd)) (hG : ∀ k ∈ G, k < W.heap.size) (hn : n ≤ c ∧ c ≤ 9223372036854775807)
    (hd : Bs W GB B m data0) (hGB : ∀ k ∈ GB, k < W.heap.size) (hmd : m ≤ d) (hm : m ≤ 140737488355328) (hdm : d ≤ 9223372036854775807) :
    Does Tryz.prog 7 [.slice A n c, .int .i64 to, .slice B m d, .int .i64 kind, .int .i64 wait] W (fun v w' => v = .bool true ∧ Only [] W w') := by
  have hzl := hz.num encEnd_len (by decide)
  obtain ⟨k, hk, hk3⟩ : ∃ k : Nat, andI .i64 kind 3 = (k : Int) ∧ k ≤ 3 := ⟨(andI .i64 kind 3).toNat, by have := and3n (x := kind); omega, by have := and3n (x := kind); omega⟩
  refine Does.enter (fn := Tryz.f7) (by kernel_rfl) rfl (by kernel_rfl) (by kernel_rfl) ?_
  conv => whnf
  refine (alive_does hs hg).mono ?_
  rintro v w1 ⟨rfl, ho1⟩
  conv => whnf
  refine wide_does.mono ?_
  rintro v w2 ⟨T, rfl, hT, hSt2, ho2⟩
  conv => whnf
  refine vStore.fresh (cs := cfC (wideC 255)) (by rw [cf_len (wideC_ok _)]; kernel_rfl) (by rw [cf_len (wideC_ok _)]; kernel_rfl) (one_cfC _) (fun w3 b12 ho3 hz3 => ?_)
  have hw3 := (ho1.t0 ho2).t0 ho3
  have hSt3 := hSt2.o ho3
  have okc := wideC_ok 255
  have hTlt : T < w2.heap.size := hSt2.lt T (by simp)
  conv => whnf
  refine (short_does (k := 300) (hd.o hw3) hm hmd hdm).mono ?_
  rintro v w4 ⟨X, nX, cX, FX, rfl, hrX, ho4, hFX⟩
  obtain rfl := (Row.bs hrX).len
  have hw4 := hw3.t0 ho4
  generalize hdata : data0.take 300 = data at *
  have hdl : data.length ≤ 300 := by rw [← hdata, List.length_take]; omega
  conv => whnf
  rw [hk]
  refine (peer_does (k := to)).mono ?_
  rintro v w5 ⟨rfl, ho5⟩
  have hw5 := hw4.t0 ho5
  conv => whnf
  refine vStore.fresh (cs := adC (peerA to)) (by kernel_rfl) (by kernel_rfl) (one_adC _) (fun w6 b13 ho6 hz6 => ?_)
  have hw6 := hw5.t0 ho6
  have h36 : Only [] w3 w6 := (ho4.t0 ho5).t0 ho6
  have b126 := b12.only h36 (by simp)
  have hSt6 := hSt3.o h36
  have hrX6 := hrX.only (ho5.t0 ho6) (by simp)
  conv => whnf
  obtain ⟨N0, hN0⟩ : ∃ x, x = w6.heap.size := ⟨_, rfl⟩
  have q12 : w2.heap.size < N0 := by rw [hN0]; exact b126.lt
  have q13 : w5.heap.size < N0 := by rw [hN0]; exact b13.lt
  have hXl : ∀ k ∈ FX, k < N0 := fun k hk => by rw [hN0]; exact hrX6.lt k hk
  have hWN : W.heap.size ≤ w2.heap.size := (ho1.t0 ho2).size
  have hWT : W.heap.size ≤ T := Nat.le_trans ho1.size hT
  have n1 : w2.heap.size ≠ T := by omega
  have h25 : w2.heap.size < w5.heap.size := by
    have := ho3.size
    have := ho4.size
    have := ho5.size
    omega
  have n2 : w5.heap.size ≠ T := by omega
  have n3 : ∀ k ∈ FX, k ≠ T := fun k hk e => by
    have := hFX k hk
    omega
  refine VLoop.inv (α := Nat × Option Addr × Nat × List Nat × List Int × NatS × List Nat) [(10, 11), (15, 26), (54, 211)] (fun t => [(15, .slice t.2.1 t.1 t.2.2.1), (16, .int .i64 t.1)])
    (fun t w' => t.1 ≤ n ∧ t.1 ≤ 20 ∧ t.2.2.2.2.1.length = t.1 ∧ (∀ o ∈ t.2.2.2.2.1, 4000 ≤ o ∧ o ≤ 4255) ∧ Row w' 3 1 t.2.2.2.1 t.2.1 t.1 t.2.2.1 (t.2.2.2.2.1.map (Value.int .i64)) ∧ Inv 0 t.2.2.2.2.2.1 ∧ t.2.2.2.2.2.1.cf = wideC 255 ∧ t.2.2.2.2.2.1.maps.length ≤ t.1 ∧ Known t.2.2.2.2.2.1 z t.2.2.2.2.1 ∧ St w' T t.2.2.2.2.2.1 t.2.2.2.2.2.2 ∧
      (∀ k ∈ t.2.2.2.2.2.2, k = T ∨ N0 ≤ k) ∧ (∀ k ∈ t.2.2.2.1, N0 ≤ k ∧ k ∉ t.2.2.2.2.2.2) ∧ Only [T] w6 w') (fun t => n - t.1) (0, none, 0, [], [], newS (wideC 255), [T]) (by kernel_rfl)
    ⟨rfl, rfl, trivial⟩ ⟨Nat.zero_le _, Nat.zero_le _, rfl, by simp, Row.nil _ _ _ _, new_inv okc (wideC_may 255), rfl, Nat.zero_le _, ⟨Nat.zero_le _, fun j e o _ h => by simp at h⟩, hSt6, fun k hk => .inl (by simpa using hk), by simp, Only.refl _ _⟩ ?_
  clear hSt2 hSt3 hSt6
  rintro ⟨i, O, cO, FO, outs, s, F⟩ wr j ⟨hi, hi20, hol, hobd, hrO, hinv, hscf, hsn, hkn, hSt, hF, hFO, ho⟩
  dsimp only at hi hi20 hol hobd hrO hinv hscf hsn hkn hSt hF hFO
  have hsr := hs.o (hw6.trans ho (fun k hk => .inr (by simp at hk; omega)))
  have hWr : Only [] W wr := hw6.trans ho (fun k hk => .inr (by simp at hk; omega))
  have hgF : 1 ∉ F := fun h => by
    rcases hF _ h with e | e
    · omega
    · omega
  refine vc.abs2 rfl fun N1 hN1 => ?_
  conv => whnf
  refine VIf.dec (fun ht => ?_) (fun ht => ?_)
  rotate_left
  · conv => whnf
    refine hN1 _ _ ?_
    conv => whnf
    have hat := and127n (x := wait)
    generalize hatt : andI .i64 wait 127 = at_ at *
    refine VLoop.inv (α := Nat × NatS × List Nat) [(10, 11), (27, 37), (213, 332)] (fun t => [(27, .int .i64 t.1)])
      (fun t w' => t.1 ≤ i ∧ (∃ n0, Inv n0 t.2.1 ∧ n0 ≤ at_) ∧ t.2.1.cf = wideC 255 ∧ (∀ m ∈ t.2.1.maps, m.used = 0) ∧ (at_ < 100 → t.2.1.maps = s.maps) ∧ St w' T t.2.1 t.2.2 ∧ (∀ k ∈ t.2.2, k = T ∨ N0 ≤ k) ∧ (∀ k ∈ FO, k ∉ t.2.2) ∧ Row w' 3 1 FO O i cO (outs.map (Value.int .i64)) ∧ Only [T] w6 w') (fun t => i - t.1) (0, s, F) (by kernel_rfl)
      ⟨rfl, trivial⟩ ⟨Nat.zero_le _, ⟨0, hinv, hat.1⟩, hscf, used0 hinv, fun _ => rfl, hSt, hF, fun k hk => (hFO k hk).2, hrO, ho⟩ ?_
    rintro ⟨q, s3, F3⟩ wq jq ⟨hq, ⟨n0, hI3, hn0⟩, hcf3, hu3, hm3, hSt3, hF3, hFO3, hrO3, ho3q⟩
    dsimp only at hq hI3 hcf3 hu3 hm3 hSt3 hF3 hFO3
    have hWq : Only [] W wq := hw6.trans ho3q (fun k hk => .inr (by simp at hk; omega))
    conv => whnf
    refine VIf.dec (fun htq => ?_) (fun htq => ?_)
    rotate_left
    · conv => whnf
      exact ⟨rfl, hWq⟩
    have htq : (q : Int) < (i : Int) := htq
    have hq2 : q < z.length := by
      have := hkn.1
      omega
    have hq3 : q < outs.length := by omega
    have eq1 : IntKind.i64.wrap ((q : Int) + 1) = ((q + 1 : Nat) : Int) := by rw [wi64]; omega
    have b12q := b126.only ho3q (by simp; omega)
    have hrXq := hrX6.only ho3q (fun k hk hm => n3 k hk (by simpa using hm))
    have hzq := hz.o hWq
    obtain ⟨b, off, rfl, -⟩ := hzq.some_ (by omega)
    obtain ⟨bO, oO, eO, -⟩ := hrO3.sl.some_ (by omega)
    have hload : Loads Tryz.prog 66 ⟨b, off + q * 2, none⟩ wq (.agg ⟨encEnd z[q]⟩) := hzq.elem encEnd_len hq2 (by kernel_rfl) (by kernel_rfl)
    obtain ⟨m3, hm31, hm32, hm33, hm34⟩ := hkn.2 q z[q] outs[q] (List.getElem?_eq_getElem hq2) (List.getElem?_eq_getElem hq3)
    have hob3 := hobd outs[q] (List.getElem_mem hq3)
    have hlq : ∀ w', Only [] wq w' → w'.cell? ⟨bO, oO + q, none⟩ = some (.int .i64 outs[q]) := fun w' ho' => by
      rw [eO] at hrO3
      exact (hrO3.sl.o ho').ld (by rw [List.getElem?_map, List.getElem?_eq_getElem hq3]; rfl)
    generalize z[q] = e at *
    obtain ⟨eh, ep⟩ := e
    dsimp only at hm32 hm33
    generalize outs[q] = oq at *
    conv => whnf
    refine ⟨_, _, rfl, q, off + q * 2, rfl, by omega, rfl, ?_⟩
    conv => whnf
    refine ⟨_, hload, ?_⟩
    clear hload
    conv => whnf
    refine vStore.fresh (cs := encEnd (eh, ep)) (by kernel_rfl) (by kernel_rfl) (one_cons rfl (one_cons rfl one_nil)) (fun wa b28 hoa hza => ?_)
    conv => whnf
    refine (peer_does (k := IntKind.i64.wrap (to + IntKind.i64.wrap (7 * (q : Int))))).mono ?_
    generalize IntKind.i64.wrap (to + IntKind.i64.wrap (7 * (q : Int))) = tq
    rintro v wb ⟨rfl, hob⟩
    conv => whnf
    refine vStore.fresh (cs := adC (peerA tq)) (by kernel_rfl) (by kernel_rfl) (one_adC _) (fun wc b29 hoc hzc => ?_)
    conv => whnf
    have hqc : Only [] wq wc := (hoa.t0 hob).t0 hoc
    have b12c := b12q.only hqc (by simp)
    have hrXc := hrXq.only hqc (by simp)
    have hWc := hWq.t0 hqc
    have htqb := peerP_bd tq
    have hlast := wide_last
    refine VDraw.abs fun N8 hN8 => ?_
    refine VDraw.held (fun w' => Only [] wc w') [0, 1, 2, 3, 4, 5, 6, 7, 8, 9, 10, 11] (by kernel_rfl) (by kernel_rfl) ((Only.refl [] wc).drew) ?_
    conv => whnf
    refine ⟨_, fun w' hw' => Loads.all (b29.only hw' (by simp)) (by kernel_rfl) (by rw [adC_len (peer_ok tq)]; kernel_rfl), ?_⟩
    conv => whnf
    refine ⟨_, fun w' hw' => (b12c.only hw' (by simp)).cfOutside okc, ?_⟩
    rw [eO]
    conv => whnf
    refine ⟨_, _, rfl, q, oO + q, rfl, by omega, p1 _ _, ?_⟩
    conv => whnf
    refine ⟨.int .i64 oq, fun w' hw' => Loads.one (by kernel_rfl) (hlq w' (hqc.t0 hw')), ?_⟩
    conv => whnf
    refine (datagram_does (peer_ok tq) (fourD_ok 192 0 2 1) (pair_po tq) rfl ((Row.bs hrXc).o ((Only.refl [] wc).drew)) (by omega) (hs.o hWc.drew) htqb (by omega) (by decide)).mono ?_
    rintro v wd ⟨Y, nY, cY, FY, rfl, hrY, hod, hFY⟩
    obtain rfl := (Row.bs hrY).len
    have hLd := laid_of (id := 9) (peer_is4 tq) (is4_four 192 0 2 1) (pair_po tq) htqb (show 0 ≤ oq ∧ oq ≤ 65535 by omega) (by decide) (show data.length ≤ 65000 by omega) hk3
    generalize datagramL (peerA tq) (fourD 192 0 2 1) (peerP tq) oq data (k : Int) 9 = l at *
    have hcd : Only [] wc wd := ((Only.refl [] wc).drew).t0 hod
    refine ⟨hcd, ?_⟩
    refine hN8 _ _ ?_
    conv => whnf
    have hll := hLd.len
    have hqd := hqc.t0 hcd
    refine (own_does (Row.bs hrY) (by omega)).mono ?_
    rintro v we ⟨Z, nZ, cZ, FZ, rfl, hrZ, hoe, hFZ⟩
    obtain rfl := (Row.bs hrZ).len
    have hqe : Only [] wq we := hqd.t0 hoe
    have hF3lt := hSt3.lt
    have hZF : ∀ k ∈ FZ, k ∉ F3 := fun k hk hm => by
      have h1 := hFZ k hk
      have h2 := hF3lt k hm
      have h3 := hqd.size
      omega
    have hgF3 : 1 ∉ F3 := fun h => by
      rcases hF3 _ h with e | e
      · omega
      · omega
    conv => whnf
    refine (in_does (hSt3.o hqe) hI3.ok (Row.bs hrZ) hZF (hs.o (hWq.t0 hqe)) hgF3 (by omega) hrZ.le.1 (by have := hrZ.le.2; unfold maxLen at this; exact this)).mono ?_
    rintro v wf hE
    obtain ⟨V, cV, FV, F', rfl, hrV, hSt', hof, hF', hFV⟩ := hE
    have hqf : Only F3 wq wf := hqe.up.trans hof (fun k hk => .inl hk)
    have b12f := b12q.only hqf (fun hm => by
      rcases hF3 _ hm with e | e
      · exact n1 e
      · omega)
    have hN0q : N0 ≤ wq.heap.size := by rw [hN0]; exact ho3q.size
    have hqes := hqe.size
    have hFT3 : ∀ k ∈ F', k = T ∨ N0 ≤ k := fun k hk => by
      rcases hF' k hk with h | h
      · exact hF3 k h
      · exact .inr (by omega)
    have hrO3l := hrO3.lt
    have hFO4 : ∀ k ∈ FO, k ∉ F' := fun k hk hm => by
      rcases hF' k hm with h | h
      · exact hFO3 k hk h
      · have := hrO3l k hk
        omega
    have hrO4 := hrO3.only hqf (fun k hk hm => hFO3 k hk hm)
    have hOn4 : Only [T] w6 wf := ho3q.trans hqf (fun k hk => by
      rcases hF3 k hk with e | e
      · exact .inl (by simp [e])
      · exact .inr (by omega))
    conv => whnf
    refine ⟨.int .i64 100, Loads.one (by kernel_rfl) (b12f.at (i := 37) rfl), ?_⟩
    conv => whnf
    refine VIf.dec (fun hdead => ?_) (fun hlive => ?_)
    · have hdead : at_ ≥ 100 := hdead
      obtain ⟨d1, d2, d3, d4, d5⟩ := in_dead hI3 hn0 hdead hat.2 hcf3 hu3 hLd
      refine vc.abs (id := 37) fun N9 hN9 => ?_
      conv => whnf
      refine VIf.eq (fun h => (d1 h).elim) (fun _ => ?_)
      conv => whnf
      refine hN9 _ _ ?_
      conv => whnf
      refine VIf.ne (fun h => (h (by rw [d2]; rfl)).elim) (fun _ => ?_)
      conv => whnf
      exact ⟨(q + 1, (cameS s3 at_ l).2.2, F'), ⟨congrArg (Value.int .i64) eq1, trivial⟩, ⟨by show q + 1 ≤ i; omega, ⟨at_, d5, Int.le_refl _⟩, d4.trans hcf3, d3, fun h => absurd h (by omega), hSt', hFT3, hFO4, hrO4, hOn4⟩, by show i - (q + 1) < i - q; omega⟩
    have hlive : at_ < 100 := by
      have : ¬ at_ ≥ 100 := hlive
      omega
    obtain ⟨v1, hC, v3, v4, v5⟩ := in_live hI3 hn0 hlive hcf3 hu3 hLd (peer_outside tq) (show m3 ∈ s3.maps by rw [hm3 hlive]; exact hm31) hm34
    rw [hm32, hm33] at hC
    have hvl := hC.len
    have hWf : Only [] W wf := hw6.trans hOn4 (fun k hk => .inr (by simp at hk; omega))
    generalize cameS s3 at_ l = r at *
    rw [v1]
    refine vc.skip ?_
    conv => whnf
    refine (valid_law (Row.bs hrV) (hs.o hWf) (by omega)).mono ?_
    rintro v wg ⟨O3, D3, E3, rfl, hp3, hd3, hog⟩
    have hl3 := pk_len (O := O3) (D := D3) hp3.ok
    have b21 := (Blk.new wg 56 ⟨pkC zeroP (none, 0) (none, 0)⟩).alloc (.cells ⟨dgC zeroD (none, 0)⟩ 61)
    have b22 := Blk.new (wg.alloc (.cells ⟨pkC zeroP (none, 0) (none, 0)⟩ 56)) 61 ⟨dgC zeroD (none, 0)⟩
    have zg := World.size_alloc wg (.cells ⟨pkC zeroP (none, 0) (none, 0)⟩ 56)
    have hag := (Only.alloc (Only.refl [] wg) (.cells ⟨pkC zeroP (none, 0) (none, 0)⟩ 56)).alloc (.cells ⟨dgC zeroD (none, 0)⟩ 61)
    have hfa := hog.t0 hag
    have hsg := hog.size
    conv => whnf
    refine vStore.all (cs := pkC (parseP r.2.1) O3 D3) b21 (by rw [hl3]; kernel_rfl) (by rw [hl3]; kernel_rfl) (one_pkC _ _ _) (fun wx b21x hox _ => ?_)
    have b22x := b22.only hox (fun hm => by have h3 : (wg.alloc (.cells ⟨pkC zeroP (none, 0) (none, 0)⟩ 56)).heap.size = wg.heap.size := List.mem_singleton.1 hm; omega)
    conv => whnf
    refine vStore.all (cs := dgC (validD r.2.1) E3) b22x (by kernel_rfl) (by kernel_rfl) (one_dgC _ _) (fun wy b22y hoy _ => ?_)
    have b21y := b21x.only hoy (fun hm => by have h3 : wg.heap.size = (wg.alloc (.cells ⟨pkC zeroP (none, 0) (none, 0)⟩ 56)).heap.size := List.mem_singleton.1 hm; omega)
    have hfy : Only [] wf wy := (hfa.nw hox hsg).nw hoy (show wf.heap.size ≤ (wg.alloc (.cells ⟨pkC zeroP (none, 0) (none, 0)⟩ 56)).heap.size by omega)
    obtain ⟨G3, hG3, -⟩ := hp3.data
    obtain ⟨GD, hGD, hGDl⟩ := Bs.tight hG3
    have hGDy := ((hGD.o hag).only hox (fun k hk hm => by
      have h3 : k = wg.heap.size := List.mem_singleton.1 hm
      have := hGDl k hk
      omega)).only hoy (fun k hk hm => by
      have h3 : k = (wg.alloc (.cells ⟨pkC zeroP (none, 0) (none, 0)⟩ 56)).heap.size := List.mem_singleton.1 hm
      have := hGDl k hk
      omega)
    obtain ⟨⟨GE, hGE, hGEl⟩, hec, hem⟩ := hd3
    have hGEy := ((hGE.o hag).only hox (fun k hk hm => by
      have h3 : k = wg.heap.size := List.mem_singleton.1 hm
      have := (hGEl k hk).2
      omega)).only hoy (fun k hk hm => by
      have h3 : k = (wg.alloc (.cells ⟨pkC zeroP (none, 0) (none, 0)⟩ 56)).heap.size := List.mem_singleton.1 hm
      have := (hGEl k hk).2
      omega)
    have b28y := (((b28.only hob (by simp)).only hoc (by simp)).only (hcd.t0 hoe) (by simp)).only hof (fun hm => by have := hF3lt _ hm; omega)
    have b29y := ((b29.only (hcd.t0 hoe) (by simp)).only hof (fun hm => by
      have h1 := hF3lt _ hm
      have h2 := (hoa.t0 hob).size
      omega)).only hfy (by simp)
    have b28y := b28y.only hfy (by simp)
    have hok3 := hp3.ok
    have hrXf := hrXq.only hqf (fun k hk hm => by
      rcases hF3 k hm with e | e
      · exact n3 k hk e
      · have := hXl k hk
        omega)
    have hdl3 : (parseP r.2.1).data.length = 8 + data.length := hC.dlen
    have hvk : (validB r.2.1 != decide ((k : Int) < 2)) = false := by
      have e2 : decide (k < 2) = decide ((k : Int) < 2) := decide_eq_decide.2 ⟨fun h => by omega, fun h => by omega⟩
      rw [hC.valid, e2]
      simp
    obtain ⟨bD, oD, eD, -⟩ := hGDy.some_ (by omega)
    have hw2 : wordL (parseP r.2.1).data 2 = andI .i64 ep 65535 := hC.w2
    refine splitB.abs fun N10 hN10 => ?_
    conv => whnf
    refine hN10 _ _ ?_
    conv => whnf
    refine VDraw.abs fun N11 hN11 => ?_
    refine VDraw.held (fun w' => Only [] wy w') [0, 1, 2, 3, 4, 5, 6, 7, 8, 9, 10, 11, 12, 13, 14, 15, 16, 17, 18, 19, 20, 21, 22, 23, 24, 25, 26, 27, 28, 29, 30, 31, 32, 33, 34, 35, 36, 37, 38, 39, 40, 41, 42, 43, 44, 45, 46, 47, 48, 49, 50] (by kernel_rfl) (by kernel_rfl) ((Only.refl [] wy).drew) ?_
    conv => whnf
    refine VIf.ne (fun h => (h (congrArg Int.ofNat hvl)).elim) (fun _ => ?_)
    conv => whnf
    refine ⟨_, fun w' hw' => Loads.one (by kernel_rfl) ((b21y.only hw' (by simp)).pkData hok3), ?_⟩
    conv => whnf
    refine VIf.dec (fun h => ?_) (fun _ => ?_)
    · have h : ((parseP r.2.1).data.length : Int) < 8 := h
      omega
    conv => whnf
    refine ⟨_, fun w' hw' => (b21y.only hw' (by simp)).pkDst hok3, ?_⟩
    conv => whnf
    refine ⟨_, fun w' hw' => Loads.all (b28y.only hw' (by simp)) (by kernel_rfl) (by kernel_rfl), ?_⟩
    conv => whnf
    refine (endAddr_does (h := eh) (p := ep)).mono ?_
    rintro v wA ⟨rfl, hoA⟩
    have hyA : Only [] wy wA := ((Only.refl [] wy).drew).t0 hoA
    refine ⟨hyA, ?_⟩
    conv => whnf
    refine ⟨_, eql_ad hok3.dst (host_ok eh) _ _, ?_⟩
    conv => whnf
    refine VIf.not (VIf.of (b := decide ((parseP r.2.1).dst = hostA eh)) (fun _ => ?_) (fun h3 => (of_decide_eq_false h3 hC.dst).elim))
    conv => whnf
    refine ⟨_, fun w' hw' => (b21y.only hw' (by simp)).pkSrc hok3, ?_⟩
    conv => whnf
    refine ⟨_, fun w' hw' => Loads.all (b29y.only hw' (by simp)) (by kernel_rfl) (by rw [adC_len (peer_ok tq)]; kernel_rfl), ?_⟩
    conv => whnf
    refine ⟨_, eql_ad hok3.src (peer_ok tq) _ _, ?_⟩
    conv => whnf
    refine VIf.not (VIf.of (b := decide ((parseP r.2.1).src = peerA tq)) (fun _ => ?_) (fun h3 => (of_decide_eq_false h3 hC.src).elim))
    conv => whnf
    refine VIf.of (b := (validB r.2.1 != decide ((k : Int) < 2))) (fun h => by rw [hvk] at h; cases h) (fun _ => ?_)
    conv => whnf
    refine ⟨_, fun w' hw' => Loads.one (by kernel_rfl) ((b21y.only hw' (by simp)).pkData hok3), ?_⟩
    rw [eD]
    rw [eD] at hGDy
    conv => whnf
    refine ⟨_, _, rfl, 2, oD + 2, rfl, by omega, p1 _ _, ?_⟩
    conv => whnf
    refine ⟨_, fun w' hw' => Loads.one (by kernel_rfl) (Bs.ld (hGDy.o hw') (getD_some (by omega))), ?_⟩
    conv => whnf
    refine ⟨_, fun w' hw' => Loads.one (by kernel_rfl) ((b21y.only hw' (by simp)).pkData hok3), ?_⟩
    rw [eD]
    conv => whnf
    refine ⟨_, _, rfl, 3, oD + 3, rfl, by omega, p1 _ _, ?_⟩
    conv => whnf
    refine ⟨_, fun w' hw' => Loads.one (by kernel_rfl) (Bs.ld (hGDy.o hw') (getD_some (by omega))), ?_⟩
    conv => whnf
    refine ⟨_, fun w' hw' => Loads.all (b28y.only hw' (by simp)) (by kernel_rfl) (by kernel_rfl), ?_⟩
    conv => whnf
    refine (endPort_does (h := eh) (p := ep)).mono ?_
    rintro v wz ⟨rfl, hoB⟩
    have hoz : Only [] wy wz := hyA.t0 hoB
    refine ⟨hoz, ?_⟩
    have eW : orI .i64 (IntKind.i64.wrap (IntKind.i64.wrap (((parseP r.2.1).data.getD 2 0).toNat : Int) * pw 8 .i64)) (IntKind.i64.wrap (((parseP r.2.1).data.getD 3 0).toNat : Int)) = andI .i64 ep 65535 := or_word64.trans hw2
    have b22z := b22y.only hoz (by simp)
    have hfz := hfy.t0 hoz
    have hrXz := hrXf.only hfz (by simp)
    have hsame : sameL data data = true := by simp [sameL]
    conv => whnf
    refine hN11 _ _ ?_
    refine vc.no (congrArg Value.bool (show (orI .i64 (IntKind.i64.wrap (IntKind.i64.wrap (((parseP r.2.1).data.getD 2 0).toNat : Int) * pw 8 .i64)) (IntKind.i64.wrap (((parseP r.2.1).data.getD 3 0).toNat : Int)) != andI .i64 ep 65535) = false by rw [eW]; simp)) ?_
    refine vc.skip ?_
    refine vc.abs (id := 42) fun N12 hN12 => ?_
    conv => whnf
    refine VIf.of (b := validB r.2.1) (fun hv => ?_) (fun hv => ?_)
    · have hk2 : k < 2 := of_decide_eq_true (hC.valid.symm.trans hv)
      rw [hC.low hk2] at b22z hGEy
      conv => whnf
      refine ⟨.int .i64 (peerP tq), Loads.one (by kernel_rfl) (b22z.at (i := 0) rfl), ?_⟩
      conv => whnf
      refine VIf.ne (fun h => (h rfl).elim) (fun _ => ?_)
      conv => whnf
      refine ⟨.slice E3.1 data.length E3.2, Loads.one (by kernel_rfl) (b22z.at (i := 3) rfl), ?_⟩
      conv => whnf
      refine (same_does (hGEy.o hoz) (Row.bs hrXz)).mono ?_
      rw [hsame]
      rintro v ws ⟨rfl, rfl⟩
      conv => whnf
      refine hN12 _ _ ?_
      refine vc.no rfl ?_
      refine vc.skip ?_
      conv => whnf
      exact ⟨(q + 1, r.2.2, F'), ⟨congrArg (Value.int .i64) eq1, trivial⟩, ⟨by show q + 1 ≤ i; omega, ⟨at_, v5, Int.le_refl _⟩, v4.trans hcf3, fun m hm => hu3 m (by rw [← v3]; exact hm), fun h => v3.trans (hm3 h), hSt'.o hfz, hFT3, hFO4, hrO4.only hfz (by simp), hOn4.f0 hfz⟩, by show i - (q + 1) < i - q; omega⟩
    · conv => whnf
      refine hN12 _ _ ?_
      refine vc.no rfl ?_
      refine vc.skip ?_
      conv => whnf
      exact ⟨(q + 1, r.2.2, F'), ⟨congrArg (Value.int .i64) eq1, trivial⟩, ⟨by show q + 1 ≤ i; omega, ⟨at_, v5, Int.le_refl _⟩, v4.trans hcf3, fun m hm => hu3 m (by rw [← v3]; exact hm), fun h => v3.trans (hm3 h), hSt'.o hfz, hFT3, hFO4, hrO4.only hfz (by simp), hOn4.f0 hfz⟩, by show i - (q + 1) < i - q; omega⟩
  have ht : (i : Int) < (n : Int) := ht
  conv => whnf
  refine hN1 _ _ ?_
  conv => whnf
  refine VIf.dec (fun ht2 => ?_) (fun ht2 => ?_)
  rotate_left
  · conv => whnf
    conv => whnf
    have hat := and127n (x := wait)
    generalize hatt : andI .i64 wait 127 = at_ at *
    refine VLoop.inv (α := Nat × NatS × List Nat) [(10, 11), (27, 37), (213, 332)] (fun t => [(27, .int .i64 t.1)])
      (fun t w' => t.1 ≤ i ∧ (∃ n0, Inv n0 t.2.1 ∧ n0 ≤ at_) ∧ t.2.1.cf = wideC 255 ∧ (∀ m ∈ t.2.1.maps, m.used = 0) ∧ (at_ < 100 → t.2.1.maps = s.maps) ∧ St w' T t.2.1 t.2.2 ∧ (∀ k ∈ t.2.2, k = T ∨ N0 ≤ k) ∧ (∀ k ∈ FO, k ∉ t.2.2) ∧ Row w' 3 1 FO O i cO (outs.map (Value.int .i64)) ∧ Only [T] w6 w') (fun t => i - t.1) (0, s, F) (by kernel_rfl)
      ⟨rfl, trivial⟩ ⟨Nat.zero_le _, ⟨0, hinv, hat.1⟩, hscf, used0 hinv, fun _ => rfl, hSt, hF, fun k hk => (hFO k hk).2, hrO, ho⟩ ?_
    rintro ⟨q, s3, F3⟩ wq jq ⟨hq, ⟨n0, hI3, hn0⟩, hcf3, hu3, hm3, hSt3, hF3, hFO3, hrO3, ho3q⟩
    dsimp only at hq hI3 hcf3 hu3 hm3 hSt3 hF3 hFO3
    have hWq : Only [] W wq := hw6.trans ho3q (fun k hk => .inr (by simp at hk; omega))
    conv => whnf
    refine VIf.dec (fun htq => ?_) (fun htq => ?_)
    rotate_left
    · conv => whnf
      exact ⟨rfl, hWq⟩
    have htq : (q : Int) < (i : Int) := htq
    have hq2 : q < z.length := by
      have := hkn.1
      omega
    have hq3 : q < outs.length := by omega
    have eq1 : IntKind.i64.wrap ((q : Int) + 1) = ((q + 1 : Nat) : Int) := by rw [wi64]; omega
    have b12q := b126.only ho3q (by simp; omega)
    have hrXq := hrX6.only ho3q (fun k hk hm => n3 k hk (by simpa using hm))
    have hzq := hz.o hWq
    obtain ⟨b, off, rfl, -⟩ := hzq.some_ (by omega)
    obtain ⟨bO, oO, eO, -⟩ := hrO3.sl.some_ (by omega)
    have hload : Loads Tryz.prog 66 ⟨b, off + q * 2, none⟩ wq (.agg ⟨encEnd z[q]⟩) := hzq.elem encEnd_len hq2 (by kernel_rfl) (by kernel_rfl)
    obtain ⟨m3, hm31, hm32, hm33, hm34⟩ := hkn.2 q z[q] outs[q] (List.getElem?_eq_getElem hq2) (List.getElem?_eq_getElem hq3)
    have hob3 := hobd outs[q] (List.getElem_mem hq3)
    have hlq : ∀ w', Only [] wq w' → w'.cell? ⟨bO, oO + q, none⟩ = some (.int .i64 outs[q]) := fun w' ho' => by
      rw [eO] at hrO3
      exact (hrO3.sl.o ho').ld (by rw [List.getElem?_map, List.getElem?_eq_getElem hq3]; rfl)
    generalize z[q] = e at *
    obtain ⟨eh, ep⟩ := e
    dsimp only at hm32 hm33
    generalize outs[q] = oq at *
    conv => whnf
    refine ⟨_, _, rfl, q, off + q * 2, rfl, by omega, rfl, ?_⟩
    conv => whnf
    refine ⟨_, hload, ?_⟩
    clear hload
    conv => whnf
    refine vStore.fresh (cs := encEnd (eh, ep)) (by kernel_rfl) (by kernel_rfl) (one_cons rfl (one_cons rfl one_nil)) (fun wa b28 hoa hza => ?_)
    conv => whnf
    refine (peer_does (k := IntKind.i64.wrap (to + IntKind.i64.wrap (7 * (q : Int))))).mono ?_
    generalize IntKind.i64.wrap (to + IntKind.i64.wrap (7 * (q : Int))) = tq
    rintro v wb ⟨rfl, hob⟩
    conv => whnf
    refine vStore.fresh (cs := adC (peerA tq)) (by kernel_rfl) (by kernel_rfl) (one_adC _) (fun wc b29 hoc hzc => ?_)
    conv => whnf
    have hqc : Only [] wq wc := (hoa.t0 hob).t0 hoc
    have b12c := b12q.only hqc (by simp)
    have hrXc := hrXq.only hqc (by simp)
    have hWc := hWq.t0 hqc
    have htqb := peerP_bd tq
    have hlast := wide_last
    refine VDraw.abs fun N8 hN8 => ?_
    refine VDraw.held (fun w' => Only [] wc w') [0, 1, 2, 3, 4, 5, 6, 7, 8, 9, 10, 11] (by kernel_rfl) (by kernel_rfl) ((Only.refl [] wc).drew) ?_
    conv => whnf
    refine ⟨_, fun w' hw' => Loads.all (b29.only hw' (by simp)) (by kernel_rfl) (by rw [adC_len (peer_ok tq)]; kernel_rfl), ?_⟩
    conv => whnf
    refine ⟨_, fun w' hw' => (b12c.only hw' (by simp)).cfOutside okc, ?_⟩
    rw [eO]
    conv => whnf
    refine ⟨_, _, rfl, q, oO + q, rfl, by omega, p1 _ _, ?_⟩
    conv => whnf
    refine ⟨.int .i64 oq, fun w' hw' => Loads.one (by kernel_rfl) (hlq w' (hqc.t0 hw')), ?_⟩
    conv => whnf
    refine (datagram_does (peer_ok tq) (fourD_ok 192 0 2 1) (pair_po tq) rfl ((Row.bs hrXc).o ((Only.refl [] wc).drew)) (by omega) (hs.o hWc.drew) htqb (by omega) (by decide)).mono ?_
    rintro v wd ⟨Y, nY, cY, FY, rfl, hrY, hod, hFY⟩
    obtain rfl := (Row.bs hrY).len
    have hLd := laid_of (id := 9) (peer_is4 tq) (is4_four 192 0 2 1) (pair_po tq) htqb (show 0 ≤ oq ∧ oq ≤ 65535 by omega) (by decide) (show data.length ≤ 65000 by omega) hk3
    generalize datagramL (peerA tq) (fourD 192 0 2 1) (peerP tq) oq data (k : Int) 9 = l at *
    have hcd : Only [] wc wd := ((Only.refl [] wc).drew).t0 hod
    refine ⟨hcd, ?_⟩
    refine hN8 _ _ ?_
    conv => whnf
    have hll := hLd.len
    have hqd := hqc.t0 hcd
    refine (own_does (Row.bs hrY) (by omega)).mono ?_
    rintro v we ⟨Z, nZ, cZ, FZ, rfl, hrZ, hoe, hFZ⟩
    obtain rfl := (Row.bs hrZ).len
    have hqe : Only [] wq we := hqd.t0 hoe
    have hF3lt := hSt3.lt
    have hZF : ∀ k ∈ FZ, k ∉ F3 := fun k hk hm => by
      have h1 := hFZ k hk
      have h2 := hF3lt k hm
      have h3 := hqd.size
      omega
    have hgF3 : 1 ∉ F3 := fun h => by
      rcases hF3 _ h with e | e
      · omega
      · omega
    conv => whnf
    refine (in_does (hSt3.o hqe) hI3.ok (Row.bs hrZ) hZF (hs.o (hWq.t0 hqe)) hgF3 (by omega) hrZ.le.1 (by have := hrZ.le.2; unfold maxLen at this; exact this)).mono ?_
    rintro v wf hE
    obtain ⟨V, cV, FV, F', rfl, hrV, hSt', hof, hF', hFV⟩ := hE
    have hqf : Only F3 wq wf := hqe.up.trans hof (fun k hk => .inl hk)
    have b12f := b12q.only hqf (fun hm => by
      rcases hF3 _ hm with e | e
      · exact n1 e
      · omega)
    have hN0q : N0 ≤ wq.heap.size := by rw [hN0]; exact ho3q.size
    have hqes := hqe.size
    have hFT3 : ∀ k ∈ F', k = T ∨ N0 ≤ k := fun k hk => by
      rcases hF' k hk with h | h
      · exact hF3 k h
      · exact .inr (by omega)
    have hrO3l := hrO3.lt
    have hFO4 : ∀ k ∈ FO, k ∉ F' := fun k hk hm => by
      rcases hF' k hm with h | h
      · exact hFO3 k hk h
      · have := hrO3l k hk
        omega
    have hrO4 := hrO3.only hqf (fun k hk hm => hFO3 k hk hm)
    have hOn4 : Only [T] w6 wf := ho3q.trans hqf (fun k hk => by
      rcases hF3 k hk with e | e
      · exact .inl (by simp [e])
      · exact .inr (by omega))
    conv => whnf
    refine ⟨.int .i64 100, Loads.one (by kernel_rfl) (b12f.at (i := 37) rfl), ?_⟩
    conv => whnf
    refine VIf.dec (fun hdead => ?_) (fun hlive => ?_)
    · have hdead : at_ ≥ 100 := hdead
      obtain ⟨d1, d2, d3, d4, d5⟩ := in_dead hI3 hn0 hdead hat.2 hcf3 hu3 hLd
      refine vc.abs (id := 37) fun N9 hN9 => ?_
      conv => whnf
      refine VIf.eq (fun h => (d1 h).elim) (fun _ => ?_)
      conv => whnf
      refine hN9 _ _ ?_
      conv => whnf
      refine VIf.ne (fun h => (h (by rw [d2]; rfl)).elim) (fun _ => ?_)
      conv => whnf
      exact ⟨(q + 1, (cameS s3 at_ l).2.2, F'), ⟨congrArg (Value.int .i64) eq1, trivial⟩, ⟨by show q + 1 ≤ i; omega, ⟨at_, d5, Int.le_refl _⟩, d4.trans hcf3, d3, fun h => absurd h (by omega), hSt', hFT3, hFO4, hrO4, hOn4⟩, by show i - (q + 1) < i - q; omega⟩
    have hlive : at_ < 100 := by
      have : ¬ at_ ≥ 100 := hlive
      omega
    obtain ⟨v1, hC, v3, v4, v5⟩ := in_live hI3 hn0 hlive hcf3 hu3 hLd (peer_outside tq) (show m3 ∈ s3.maps by rw [hm3 hlive]; exact hm31) hm34
    rw [hm32, hm33] at hC
    have hvl := hC.len
    have hWf : Only [] W wf := hw6.trans hOn4 (fun k hk => .inr (by simp at hk; omega))
    generalize cameS s3 at_ l = r at *
    rw [v1]
    refine vc.skip ?_
    conv => whnf
    refine (valid_law (Row.bs hrV) (hs.o hWf) (by omega)).mono ?_
    rintro v wg ⟨O3, D3, E3, rfl, hp3, hd3, hog⟩
    have hl3 := pk_len (O := O3) (D := D3) hp3.ok
    have b21 := (Blk.new wg 56 ⟨pkC zeroP (none, 0) (none, 0)⟩).alloc (.cells ⟨dgC zeroD (none, 0)⟩ 61)
    have b22 := Blk.new (wg.alloc (.cells ⟨pkC zeroP (none, 0) (none, 0)⟩ 56)) 61 ⟨dgC zeroD (none, 0)⟩
    have zg := World.size_alloc wg (.cells ⟨pkC zeroP (none, 0) (none, 0)⟩ 56)
    have hag := (Only.alloc (Only.refl [] wg) (.cells ⟨pkC zeroP (none, 0) (none, 0)⟩ 56)).alloc (.cells ⟨dgC zeroD (none, 0)⟩ 61)
    have hfa := hog.t0 hag
    have hsg := hog.size
    conv => whnf
    refine vStore.all (cs := pkC (parseP r.2.1) O3 D3) b21 (by rw [hl3]; kernel_rfl) (by rw [hl3]; kernel_rfl) (one_pkC _ _ _) (fun wx b21x hox _ => ?_)
    have b22x := b22.only hox (fun hm => by have h3 : (wg.alloc (.cells ⟨pkC zeroP (none, 0) (none, 0)⟩ 56)).heap.size = wg.heap.size := List.mem_singleton.1 hm; omega)
    conv => whnf
    refine vStore.all (cs := dgC (validD r.2.1) E3) b22x (by kernel_rfl) (by kernel_rfl) (one_dgC _ _) (fun wy b22y hoy _ => ?_)
    have b21y := b21x.only hoy (fun hm => by have h3 : wg.heap.size = (wg.alloc (.cells ⟨pkC zeroP (none, 0) (none, 0)⟩ 56)).heap.size := List.mem_singleton.1 hm; omega)
    have hfy : Only [] wf wy := (hfa.nw hox hsg).nw hoy (show wf.heap.size ≤ (wg.alloc (.cells ⟨pkC zeroP (none, 0) (none, 0)⟩ 56)).heap.size by omega)
    obtain ⟨G3, hG3, -⟩ := hp3.data
    obtain ⟨GD, hGD, hGDl⟩ := Bs.tight hG3
    have hGDy := ((hGD.o hag).only hox (fun k hk hm => by
      have h3 : k = wg.heap.size := List.mem_singleton.1 hm
      have := hGDl k hk
      omega)).only hoy (fun k hk hm => by
      have h3 : k = (wg.alloc (.cells ⟨pkC zeroP (none, 0) (none, 0)⟩ 56)).heap.size := List.mem_singleton.1 hm
      have := hGDl k hk
      omega)
    obtain ⟨⟨GE, hGE, hGEl⟩, hec, hem⟩ := hd3
    have hGEy := ((hGE.o hag).only hox (fun k hk hm => by
      have h3 : k = wg.heap.size := List.mem_singleton.1 hm
      have := (hGEl k hk).2
      omega)).only hoy (fun k hk hm => by
      have h3 : k = (wg.alloc (.cells ⟨pkC zeroP (none, 0) (none, 0)⟩ 56)).heap.size := List.mem_singleton.1 hm
      have := (hGEl k hk).2
      omega)
    have b28y := (((b28.only hob (by simp)).only hoc (by simp)).only (hcd.t0 hoe) (by simp)).only hof (fun hm => by have := hF3lt _ hm; omega)
    have b29y := ((b29.only (hcd.t0 hoe) (by simp)).only hof (fun hm => by
      have h1 := hF3lt _ hm
      have h2 := (hoa.t0 hob).size
      omega)).only hfy (by simp)
    have b28y := b28y.only hfy (by simp)
    have hok3 := hp3.ok
    have hrXf := hrXq.only hqf (fun k hk hm => by
      rcases hF3 k hm with e | e
      · exact n3 k hk e
      · have := hXl k hk
        omega)
    have hdl3 : (parseP r.2.1).data.length = 8 + data.length := hC.dlen
    have hvk : (validB r.2.1 != decide ((k : Int) < 2)) = false := by
      have e2 : decide (k < 2) = decide ((k : Int) < 2) := decide_eq_decide.2 ⟨fun h => by omega, fun h => by omega⟩
      rw [hC.valid, e2]
      simp
    obtain ⟨bD, oD, eD, -⟩ := hGDy.some_ (by omega)
    have hw2 : wordL (parseP r.2.1).data 2 = andI .i64 ep 65535 := hC.w2
    refine splitB.abs fun N10 hN10 => ?_
    conv => whnf
    refine hN10 _ _ ?_
    conv => whnf
    refine VDraw.abs fun N11 hN11 => ?_
    refine VDraw.held (fun w' => Only [] wy w') [0, 1, 2, 3, 4, 5, 6, 7, 8, 9, 10, 11, 12, 13, 14, 15, 16, 17, 18, 19, 20, 21, 22, 23, 24, 25, 26, 27, 28, 29, 30, 31, 32, 33, 34, 35, 36, 37, 38, 39, 40, 41, 42, 43, 44, 45, 46, 47, 48, 49, 50] (by kernel_rfl) (by kernel_rfl) ((Only.refl [] wy).drew) ?_
    conv => whnf
    refine VIf.ne (fun h => (h (congrArg Int.ofNat hvl)).elim) (fun _ => ?_)
    conv => whnf
    refine ⟨_, fun w' hw' => Loads.one (by kernel_rfl) ((b21y.only hw' (by simp)).pkData hok3), ?_⟩
    conv => whnf
    refine VIf.dec (fun h => ?_) (fun _ => ?_)
    · have h : ((parseP r.2.1).data.length : Int) < 8 := h
      omega
    conv => whnf
    refine ⟨_, fun w' hw' => (b21y.only hw' (by simp)).pkDst hok3, ?_⟩
    conv => whnf
    refine ⟨_, fun w' hw' => Loads.all (b28y.only hw' (by simp)) (by kernel_rfl) (by kernel_rfl), ?_⟩
    conv => whnf
    refine (endAddr_does (h := eh) (p := ep)).mono ?_
    rintro v wA ⟨rfl, hoA⟩
    have hyA : Only [] wy wA := ((Only.refl [] wy).drew).t0 hoA
    refine ⟨hyA, ?_⟩
    conv => whnf
    refine ⟨_, eql_ad hok3.dst (host_ok eh) _ _, ?_⟩
    conv => whnf
    refine VIf.not (VIf.of (b := decide ((parseP r.2.1).dst = hostA eh)) (fun _ => ?_) (fun h3 => (of_decide_eq_false h3 hC.dst).elim))
    conv => whnf
    refine ⟨_, fun w' hw' => (b21y.only hw' (by simp)).pkSrc hok3, ?_⟩
    conv => whnf
    refine ⟨_, fun w' hw' => Loads.all (b29y.only hw' (by simp)) (by kernel_rfl) (by rw [adC_len (peer_ok tq)]; kernel_rfl), ?_⟩
    conv => whnf
    refine ⟨_, eql_ad hok3.src (peer_ok tq) _ _, ?_⟩
    conv => whnf
    refine VIf.not (VIf.of (b := decide ((parseP r.2.1).src = peerA tq)) (fun _ => ?_) (fun h3 => (of_decide_eq_false h3 hC.src).elim))
    conv => whnf
    refine VIf.of (b := (validB r.2.1 != decide ((k : Int) < 2))) (fun h => by rw [hvk] at h; cases h) (fun _ => ?_)
    conv => whnf
    refine ⟨_, fun w' hw' => Loads.one (by kernel_rfl) ((b21y.only hw' (by simp)).pkData hok3), ?_⟩
    rw [eD]
    rw [eD] at hGDy
    conv => whnf
    refine ⟨_, _, rfl, 2, oD + 2, rfl, by omega, p1 _ _, ?_⟩
    conv => whnf
    refine ⟨_, fun w' hw' => Loads.one (by kernel_rfl) (Bs.ld (hGDy.o hw') (getD_some (by omega))), ?_⟩
    conv => whnf
    refine ⟨_, fun w' hw' => Loads.one (by kernel_rfl) ((b21y.only hw' (by simp)).pkData hok3), ?_⟩
    rw [eD]
    conv => whnf
    refine ⟨_, _, rfl, 3, oD + 3, rfl, by omega, p1 _ _, ?_⟩
    conv => whnf
    refine ⟨_, fun w' hw' => Loads.one (by kernel_rfl) (Bs.ld (hGDy.o hw') (getD_some (by omega))), ?_⟩
    conv => whnf
    refine ⟨_, fun w' hw' => Loads.all (b28y.only hw' (by simp)) (by kernel_rfl) (by kernel_rfl), ?_⟩
    conv => whnf
    refine (endPort_does (h := eh) (p := ep)).mono ?_
    rintro v wz ⟨rfl, hoB⟩
    have hoz : Only [] wy wz := hyA.t0 hoB
    refine ⟨hoz, ?_⟩
    have eW : orI .i64 (IntKind.i64.wrap (IntKind.i64.wrap (((parseP r.2.1).data.getD 2 0).toNat : Int) * pw 8 .i64)) (IntKind.i64.wrap (((parseP r.2.1).data.getD 3 0).toNat : Int)) = andI .i64 ep 65535 := or_word64.trans hw2
    have b22z := b22y.only hoz (by simp)
    have hfz := hfy.t0 hoz
    have hrXz := hrXf.only hfz (by simp)
    have hsame : sameL data data = true := by simp [sameL]
    conv => whnf
    refine hN11 _ _ ?_
    refine vc.no (congrArg Value.bool (show (orI .i64 (IntKind.i64.wrap (IntKind.i64.wrap (((parseP r.2.1).data.getD 2 0).toNat : Int) * pw 8 .i64)) (IntKind.i64.wrap (((parseP r.2.1).data.getD 3 0).toNat : Int)) != andI .i64 ep 65535) = false by rw [eW]; simp)) ?_
    refine vc.skip ?_
    refine vc.abs (id := 42) fun N12 hN12 => ?_
    conv => whnf
    refine VIf.of (b := validB r.2.1) (fun hv => ?_) (fun hv => ?_)
    · have hk2 : k < 2 := of_decide_eq_true (hC.valid.symm.trans hv)
      rw [hC.low hk2] at b22z hGEy
      conv => whnf
      refine ⟨.int .i64 (peerP tq), Loads.one (by kernel_rfl) (b22z.at (i := 0) rfl), ?_⟩
      conv => whnf
      refine VIf.ne (fun h => (h rfl).elim) (fun _ => ?_)
      conv => whnf
      refine ⟨.slice E3.1 data.length E3.2, Loads.one (by kernel_rfl) (b22z.at (i := 3) rfl), ?_⟩
      conv => whnf
      refine (same_does (hGEy.o hoz) (Row.bs hrXz)).mono ?_
      rw [hsame]
      rintro v ws ⟨rfl, rfl⟩
      conv => whnf
      refine hN12 _ _ ?_
      refine vc.no rfl ?_
      refine vc.skip ?_
      conv => whnf
      exact ⟨(q + 1, r.2.2, F'), ⟨congrArg (Value.int .i64) eq1, trivial⟩, ⟨by show q + 1 ≤ i; omega, ⟨at_, v5, Int.le_refl _⟩, v4.trans hcf3, fun m hm => hu3 m (by rw [← v3]; exact hm), fun h => v3.trans (hm3 h), hSt'.o hfz, hFT3, hFO4, hrO4.only hfz (by simp), hOn4.f0 hfz⟩, by show i - (q + 1) < i - q; omega⟩
    · conv => whnf
      refine hN12 _ _ ?_
      refine vc.no rfl ?_
      refine vc.skip ?_
      conv => whnf
      exact ⟨(q + 1, r.2.2, F'), ⟨congrArg (Value.int .i64) eq1, trivial⟩, ⟨by show q + 1 ≤ i; omega, ⟨at_, v5, Int.le_refl _⟩, v4.trans hcf3, fun m hm => hu3 m (by rw [← v3]; exact hm), fun h => v3.trans (hm3 h), hSt'.o hfz, hFT3, hFO4, hrO4.only hfz (by simp), hOn4.f0 hfz⟩, by show i - (q + 1) < i - q; omega⟩
  have ht2 : (i : Int) < 20 := ht2
  have hi2 : i < z.length := by omega
  have b12r := b126.only ho (by simp; omega)
  have b13r := b13.only ho (by simp; omega)
  have hrXr := hrX6.only ho (fun k hk hm => n3 k hk (by simpa using hm))
  have hzr := hz.o hWr
  obtain ⟨b, off, rfl, -⟩ := hzr.some_ (by omega)
  have hload : Loads Tryz.prog 66 ⟨b, off + i * 2, none⟩ wr (.agg ⟨encEnd z[i]⟩) := hzr.elem encEnd_len hi2 (by kernel_rfl) (by kernel_rfl)
  generalize hze : z[i] = e at *
  obtain ⟨eh, ep⟩ := e
  have ei : IntKind.i64.wrap ((i : Int) + 1) = ((i + 1 : Nat) : Int) := by rw [wi64]; omega
  have eid : IntKind.u32.wrap (i : Int) = (i : Int) := by rw [wr32]; omega
  have hep := and65535n (x := ep)
  have hpt := peerP_bd to
  conv => whnf
  refine ⟨_, _, rfl, i, off + i * 2, rfl, by omega, rfl, ?_⟩
  conv => whnf
  refine ⟨_, hload, ?_⟩
  clear hload
  conv => whnf
  refine vStore.fresh (cs := encEnd (eh, ep)) (by kernel_rfl) (by kernel_rfl) (one_cons rfl (one_cons rfl one_nil)) (fun wa b17 hoa hza => ?_)
  have b12a := b12r.only hoa (by simp)
  have b13a := b13r.only hoa (by simp)
  have hrXa := hrXr.only hoa (by simp)
  have hWa := hWr.t0 hoa
  conv => whnf
  refine VDraw.abs fun N2 hN2 => ?_
  refine VDraw.held (fun w' => Blk w' wr.heap.size 66 ⟨encEnd (eh, ep)⟩ ∧ Blk w' w5.heap.size 24 ⟨adC (peerA to)⟩) [0, 2, 3, 5, 6, 7, 8, 9, 1, 4, 10, 11] (by kernel_rfl) (by kernel_rfl) ⟨b17.drew, b13a.drew⟩ ?_
  conv => whnf
  refine ⟨_, fun w' hw' => Loads.all hw'.1 (by kernel_rfl) (by kernel_rfl), ?_⟩
  conv => whnf
  refine ⟨_, fun w' hw' => Loads.all hw'.2 (by kernel_rfl) (by rw [adC_len (peer_ok to)]; kernel_rfl), ?_⟩
  conv => whnf
  refine ⟨_, fun w' hw' => Loads.all hw'.1 (by kernel_rfl) (by kernel_rfl), ?_⟩
  conv => whnf
  refine (endAddr_does (h := eh) (p := ep)).mono ?_
  rintro v wb ⟨rfl, hob⟩
  have b17b := b17.drew.only hob (by simp)
  have b13b := b13a.drew.only hob (by simp)
  refine ⟨⟨b17b, b13b⟩, ?_⟩
  conv => whnf
  refine (endPort_does (h := eh) (p := ep)).mono ?_
  rintro v wc ⟨rfl, hoc⟩
  have b17c := b17b.only hoc (by simp)
  have b13c := b13b.only hoc (by simp)
  refine ⟨⟨b17c, b13c⟩, ?_⟩
  have hac : Only [] wa wc := (((Only.refl [] wa).drew).t0 hob).t0 hoc
  conv => whnf
  rw [eid]
  refine (datagram_does (host_ok eh) (peer_ok to) (pair_hp eh to) rfl ((Row.bs hrXa).o hac) (by omega) (hs.o (hWa.t0 hac)) hep hpt (by omega)).mono ?_
  rintro v wd ⟨Y, nY, cY, FY, rfl, hrY, hod, hFY⟩
  obtain rfl := (Row.bs hrY).len
  have hLd := laid_of (id := (i : Int)) (host_is4 eh) (peer_is4 to) (pair_hp eh to) hep hpt (by omega) (show data.length ≤ 65000 by omega) hk3
  generalize datagramL (hostA eh) (peerA to) (andI .i64 ep 65535) (peerP to) data (k : Int) (i : Int) = l at *
  refine ⟨⟨b17c.only hod (by simp), b13c.only hod (by simp)⟩, ?_⟩
  refine hN2 _ _ ?_
  have had : Only [] wa wd := hac.t0 hod
  have hWd := hWa.t0 had
  have hSa : Only [] wr wd := hoa.t0 had
  have hll := hLd.len
  conv => whnf
  refine (own_does (Row.bs hrY) (by omega)).mono ?_
  rintro v we ⟨Z, nZ, cZ, FZ, rfl, hrZ, hoe, hFZ⟩
  obtain rfl := (Row.bs hrZ).len
  have hre : Only [] wr we := hSa.t0 hoe
  have hZF : ∀ k ∈ FZ, k ∉ F := fun k hk hm => by
    have h1 := hFZ k hk
    have h2 := hSt.lt k hm
    have h3 := hSa.size
    omega
  conv => whnf
  refine (out_does (hSt.o hre) hinv.ok (Row.bs hrZ) hZF (hs.o (hWd.t0 hoe)) hgF (by omega) hrZ.le.1 (by have := hrZ.le.2; unfold maxLen at this; exact this)).mono ?_
  rintro v wf hE
  obtain ⟨out, hout0, hW⟩ := out_turn hinv hscf (by omega) hLd (host_inside eh) (peer_outside to)
  generalize outS s 0 l = r at *
  obtain ⟨V, cV, FV, F', rfl, hrV, hSt', hof, hF', hFV⟩ := hE
  rw [hout0]
  conv => whnf
  have hFlt : ∀ k ∈ F, k < wr.heap.size := hSt.lt
  have hFq : ∀ q, q < N0 → q ≠ T → q ∉ F := fun q h1 h2 hm => by
    rcases hF q hm with e | e
    · exact h2 e
    · omega
  have hrf : Only F wr wf := hre.up.trans hof (fun k hk => .inl hk)
  have b12f := b12r.only hrf (hFq _ q12 n1)
  have b13f := b13r.only hrf (hFq _ q13 n2)
  have hrXf := hrXr.only hrf (fun k hk hm => hFq _ (hXl k hk) (n3 k hk) hm)
  have b17f := (b17.only (had.t0 hoe) (by simp)).only hof (fun hm => by have := hFlt _ hm; omega)
  have hrYf := (hrY.only hoe (by simp)).only hof (fun k hk hm => by
    have h1 := hFY k hk
    have h2 := hFlt k hm
    have h3 := (hoa.t0 hac).size
    omega)
  have hrOf := hrO.only hrf (fun k hk hm => (hFO k hk).2 hm)
  have hWf : Only [] W wf := hWr.trans hrf (fun k hk => .inr (by
    rcases hF k hk with e | e
    · omega
    · omega))
  have hvl := hW.len
  refine (valid_law (Row.bs hrV) (hs.o hWf) (by omega)).mono ?_
  rintro v wg ⟨O3, D3, E3, rfl, hp3, hd3, hog⟩
  have hl3 := pk_len (O := O3) (D := D3) hp3.ok
  have b21 := (Blk.new wg 56 ⟨pkC zeroP (none, 0) (none, 0)⟩).alloc (.cells ⟨dgC zeroD (none, 0)⟩ 61)
  have b22 := Blk.new (wg.alloc (.cells ⟨pkC zeroP (none, 0) (none, 0)⟩ 56)) 61 ⟨dgC zeroD (none, 0)⟩
  have zg := World.size_alloc wg (.cells ⟨pkC zeroP (none, 0) (none, 0)⟩ 56)
  have hag := (Only.alloc (Only.refl [] wg) (.cells ⟨pkC zeroP (none, 0) (none, 0)⟩ 56)).alloc (.cells ⟨dgC zeroD (none, 0)⟩ 61)
  have hfa := hog.t0 hag
  have hsg := hog.size
  conv => whnf
  refine vStore.all (cs := pkC (parseP r.2.1) O3 D3) b21 (by rw [hl3]; kernel_rfl) (by rw [hl3]; kernel_rfl) (one_pkC _ _ _) (fun wx b21x hox _ => ?_)
  have b22x := b22.only hox (fun hm => by have h3 : (wg.alloc (.cells ⟨pkC zeroP (none, 0) (none, 0)⟩ 56)).heap.size = wg.heap.size := List.mem_singleton.1 hm; omega)
  conv => whnf
  refine vStore.all (cs := dgC (validD r.2.1) E3) b22x (by kernel_rfl) (by kernel_rfl) (one_dgC _ _) (fun wy b22y hoy _ => ?_)
  have b21y := b21x.only hoy (fun hm => by have h3 : wg.heap.size = (wg.alloc (.cells ⟨pkC zeroP (none, 0) (none, 0)⟩ 56)).heap.size := List.mem_singleton.1 hm; omega)
  have hfy : Only [] wf wy := (hfa.nw hox hsg).nw hoy (show wf.heap.size ≤ (wg.alloc (.cells ⟨pkC zeroP (none, 0) (none, 0)⟩ 56)).heap.size by omega)
  obtain ⟨G3, hG3, -⟩ := hp3.data
  obtain ⟨GD, hGD, hGDl⟩ := Bs.tight hG3
  have hGDy := ((hGD.o hag).only hox (fun k hk hm => by
    have h3 : k = wg.heap.size := List.mem_singleton.1 hm
    have := hGDl k hk
    omega)).only hoy (fun k hk hm => by
    have h3 : k = (wg.alloc (.cells ⟨pkC zeroP (none, 0) (none, 0)⟩ 56)).heap.size := List.mem_singleton.1 hm
    have := hGDl k hk
    omega)
  obtain ⟨⟨GE, hGE, hGEl⟩, hec, hem⟩ := hd3
  have hGEy := ((hGE.o hag).only hox (fun k hk hm => by
    have h3 : k = wg.heap.size := List.mem_singleton.1 hm
    have := (hGEl k hk).2
    omega)).only hoy (fun k hk hm => by
    have h3 : k = (wg.alloc (.cells ⟨pkC zeroP (none, 0) (none, 0)⟩ 56)).heap.size := List.mem_singleton.1 hm
    have := (hGEl k hk).2
    omega)
  have b12y := b12f.only hfy (by simp)
  have b13y := b13f.only hfy (by simp)
  have b17y := b17f.only hfy (by simp)
  have hok3 := hp3.ok
  refine splitB.abs fun N3 hN3 => ?_
  conv => whnf
  refine hN3 _ _ ?_
  refine vc.abs2 rfl fun N4 hN4 => ?_
  conv => whnf
  refine VIf.ne (fun h => (h (congrArg Int.ofNat hvl)).elim) (fun _ => ?_)
  conv => whnf
  have hvk : (validB r.2.1 != decide ((k : Int) < 2)) = false := by
    have e2 : decide (k < 2) = decide ((k : Int) < 2) := decide_eq_decide.2 ⟨fun h => by omega, fun h => by omega⟩
    rw [hW.valid, e2]
    simp
  have hdl3 : (parseP r.2.1).data.length = 8 + data.length := hW.dlen
  refine ⟨_, b21y.pkSrc hok3, ?_⟩
  conv => whnf
  refine ⟨_, b12y.cfOutside okc, ?_⟩
  conv => whnf
  refine ⟨_, eql_ad hok3.src okc.outside _ _, ?_⟩
  conv => whnf
  refine VIf.not (VIf.of (b := decide ((parseP r.2.1).src = (wideC 255).outside)) (fun _ => ?_) (fun h3 => (of_decide_eq_false h3 hW.src).elim))
  conv => whnf
  refine ⟨_, b21y.pkDst hok3, ?_⟩
  conv => whnf
  refine ⟨_, Loads.all b13y (by kernel_rfl) (by rw [adC_len (peer_ok to)]; kernel_rfl), ?_⟩
  conv => whnf
  refine ⟨_, eql_ad hok3.dst (peer_ok to) _ _, ?_⟩
  conv => whnf
  refine VIf.not (VIf.of (b := decide ((parseP r.2.1).dst = peerA to)) (fun _ => ?_) (fun h3 => (of_decide_eq_false h3 hW.dst).elim))
  conv => whnf
  refine VIf.of (b := (validB r.2.1 != decide ((k : Int) < 2))) (fun h => by rw [hvk] at h; cases h) (fun _ => ?_)
  conv => whnf
  refine ⟨_, Loads.one (by kernel_rfl) (b21y.pkData hok3), ?_⟩
  conv => whnf
  refine hN4 _ _ ?_
  conv => whnf
  refine VIf.dec (fun h => ?_) (fun _ => ?_)
  · have h : ((parseP r.2.1).data.length : Int) < 8 := h
    omega
  conv => whnf
  obtain ⟨bD, oD, eD, -⟩ := hGDy.some_ (by omega)
  have hw0 : wordL (parseP r.2.1).data 0 = out := hW.w0
  refine VDraw.abs fun N5 hN5 => ?_
  refine VDraw.q (by kernel_rfl) (by kernel_rfl) ?_
  conv => whnf
  refine ⟨_, fun w' hw' => Loads.one (by kernel_rfl) ((b21y.only hw' (by simp)).pkData hok3), ?_⟩
  rw [eD]
  rw [eD] at hGDy
  conv => whnf
  refine ⟨_, _, rfl, 0, oD + 0, rfl, by omega, p1 _ _, ?_⟩
  conv => whnf
  refine ⟨_, fun w' hw' => Loads.one (by kernel_rfl) (Bs.ld (hGDy.o hw') (getD_some (by omega))), ?_⟩
  conv => whnf
  refine ⟨_, fun w' hw' => Loads.one (by kernel_rfl) ((b21y.only hw' (by simp)).pkData hok3), ?_⟩
  rw [eD]
  conv => whnf
  refine ⟨_, _, rfl, 1, oD + 1, rfl, by omega, p1 _ _, ?_⟩
  conv => whnf
  refine ⟨_, fun w' hw' => Loads.one (by kernel_rfl) (Bs.ld (hGDy.o hw') (getD_some (by omega))), ?_⟩
  conv => whnf
  intro wz hoz
  refine hN5 _ _ ?_
  have eW : orI .i64 (IntKind.i64.wrap (IntKind.i64.wrap (((parseP r.2.1).data.getD 0 0).toNat : Int) * pw 8 .i64)) (IntKind.i64.wrap (((parseP r.2.1).data.getD 1 0).toNat : Int)) = out := or_word64.trans hw0
  have b12z := b12y.only hoz (by simp)
  have b17z := b17y.only hoz (by simp)
  have b22z := b22y.only hoz (by simp)
  have hbd := hW.bd
  have hlast := wide_last
  refine vc.abs2 rfl fun N6 hN6 => ?_
  conv => whnf
  refine ⟨_, Loads.one (by kernel_rfl) (b12z.at (i := 35) rfl), ?_⟩
  conv => whnf
  rw [eW]
  refine VIf.dec (fun h => ?_) (fun _ => ?_)
  · have h : out < 4000 := h
    omega
  conv => whnf
  refine ⟨_, Loads.one (by kernel_rfl) (b12z.at (i := 36) rfl), ?_⟩
  conv => whnf
  refine VIf.dec (fun h => ?_) (fun _ => ?_)
  · have h : out > (wideC 255).last := h
    omega
  have hrXz := hrXf.only (hfy.t0 hoz) (by simp)
  have hfz := hfy.t0 hoz
  have hsame : sameL data data = true := by simp [sameL]
  have hkb : (decide (k = 1) != ((k : Int) == 1)) = false := by
    have e2 : decide (k = 1) = ((k : Int) == 1) := by
      rw [Bool.eq_iff_iff]
      simp
      omega
    rw [e2]
    simp
  conv => whnf
  refine VIf.of (b := validB r.2.1) (fun hv => ?_) (fun hv => ?_)
  · have hk2 : k < 2 := of_decide_eq_true (hW.valid.symm.trans hv)
    rw [hW.low hk2] at b22z hGEy
    conv => whnf
    refine ⟨.int .i64 out, Loads.one (by kernel_rfl) (b22z.at (i := 0) rfl), ?_⟩
    conv => whnf
    refine VIf.ne (fun h => (h rfl).elim) (fun _ => ?_)
    conv => whnf
    refine ⟨.int .i64 (peerP to), Loads.one (by kernel_rfl) (b22z.at (i := 1) rfl), ?_⟩
    conv => whnf
    refine VIf.ne (fun h => (h rfl).elim) (fun _ => ?_)
    conv => whnf
    refine ⟨.slice E3.1 data.length E3.2, Loads.one (by kernel_rfl) (b22z.at (i := 3) rfl), ?_⟩
    conv => whnf
    refine (same_does (hGEy.o hoz) (Row.bs hrXz)).mono ?_
    rw [hsame]
    rintro v ws ⟨rfl, rfl⟩
    conv => whnf
    refine ⟨.bool (decide (k = 1)), Loads.one (by kernel_rfl) (b22z.at (i := 2) rfl), ?_⟩
    conv => whnf
    refine hN6 _ _ ?_
    refine vc.no (congrArg Value.bool hkb) ?_
    refine vc.skip ?_
    conv => whnf
    refine VLoop.inv (α := Nat) [(10, 11), (25, 26), (177, 207)] (fun q => [(25, .int .i64 q)]) (fun q w' => q ≤ i ∧ Only [] wz w') (fun q => i - q) 0 (by kernel_rfl) ⟨rfl, trivial⟩ ⟨Nat.zero_le _, Only.refl _ _⟩ ?_
    rintro q wq jq ⟨hq, hoq⟩
    have hzq := (hz.o hWf).o ((hfz).t0 hoq)
    have b17q := b17z.only hoq (by simp)
    have hrOq := hrOf.only (hfz.t0 hoq) (by simp)
    conv => whnf
    refine VIf.dec (fun htq => ?_) (fun htq => ?_)
    rotate_left
    · have hfq : Only [] wf wq := hfz.t0 hoq
      have hrOl := hrO.lt
      have hFOF' : ∀ k ∈ FO, k ∉ F' := fun k hk hm => by
        rcases hF' k hm with h | h
        · exact (hFO k hk).2 h
        · have h1 := hrOl k hk
          have h2 := hre.size
          omega
      have hal := (Only.refl [] wq).alloc (.cells ⟨[Value.int .i64 out]⟩ 3)
      conv => whnf
      refine vFall.append 3 1 8 rfl (by kernel_rfl) rfl (hrOq.alloc _) rfl (Sl.new wq 3 1 [Value.int .i64 out] 1 rfl) (by simp [Value.oneCell']) (by omega) (by omega) ?_
      intro A5 c5 F5 w5' hr5 ho5' hF5
      have hStq := (hSt'.o hfq)
      have hlt' := hStq.lt
      have hqal : Only FO wq w5' := hal.zf ho5'
      have hN0r : N0 ≤ wr.heap.size := by rw [hN0]; exact ho.size
      have hsz1 := hre.size
      have hsz2 := hfq.size
      have hsz3 := hof.size
      have hFT : ∀ k ∈ F', k = T ∨ N0 ≤ k := fun k hk => by
        rcases hF' k hk with h | h
        · exact hF k h
        · exact .inr (by omega)
      have hOn : Only [T] w6 w5' := by
        have h1 : Only [T] w6 wf := ho.trans hrf (fun k hk => by
          rcases hF k hk with e | e
          · exact .inl (by simp [e])
          · exact .inr (by omega))
        have h2 : Only [T] w6 wq := h1.f0 hfq
        exact h2.trans hqal (fun k hk => .inr (by have := (hFO k hk).1; omega))
      conv => whnf
      refine ⟨(i + 1, A5, c5, F5, outs ++ [out], r.2.2, F'), ⟨rfl, congrArg (Value.int .i64) ei, trivial⟩, ⟨by show i + 1 ≤ n; omega, by show i + 1 ≤ 20; omega, by simp [hol], ?_, hr5.cast (by simp), hW.inv, hW.cf.trans hscf, Nat.le_trans hW.num (by omega), ?_, (hStq.only hqal (fun k hk hm => hFOF' k hm hk)), hFT, ?_, hOn⟩, by show n - (i + 1) < n - i; omega⟩
      · intro o ho2
        rcases List.mem_append.1 ho2 with h | h
        · exact hobd o h
        · rw [List.mem_singleton.1 h]
          exact hbd
      · refine ⟨by simp [hol]; omega, fun j e o h1 h2 => ?_⟩
        by_cases hj : j < outs.length
        · rw [List.getElem?_append_left hj] at h2
          obtain ⟨m, hm, hx⟩ := hkn.2 j e o h1 h2
          exact ⟨m, hW.keep m hm, hx⟩
        · rw [List.getElem?_append_right (by omega)] at h2
          obtain rfl : j = outs.length := by
            have := (List.getElem?_eq_some_iff.1 h2).1
            simp at this
            omega
          have ho2 : out = o := by simpa using h2
          rw [hol, List.getElem?_eq_getElem hi2, hze] at h1
          have he2 : (eh, ep) = e := Option.some.inj h1
          rw [← he2, ← ho2]
          exact hW.has
      · intro k hk
        rcases hF5 k hk with h | h
        · exact ⟨(hFO k h).1, hFOF' k h⟩
        · have h3 : wq.heap.size ≤ k := Nat.le_trans hal.size h
          exact ⟨by omega, fun hm => by have := hlt' k hm; omega⟩
    have htq : (q : Int) < (i : Int) := htq
    have hq2 : q < z.length := by omega
    have hq3 : q < outs.length := by omega
    have eq1 : IntKind.i64.wrap ((q : Int) + 1) = ((q + 1 : Nat) : Int) := by rw [wi64]; omega
    obtain ⟨bO, oO, eO, -⟩ := hrOq.sl.some_ (by omega)
    have hlo : ∀ w', Only [] wq w' → Loads Tryz.prog 66 ⟨b, off + q * 2, none⟩ w' (.agg ⟨encEnd z[q]⟩) := fun w' ho' => (hzq.o ho').elem encEnd_len hq2 (by kernel_rfl) (by kernel_rfl)
    have hkn' : Known r.2.2 z outs := ⟨hkn.1, fun j e o h1 h2 => by
      obtain ⟨m, hm, hx⟩ := hkn.2 j e o h1 h2
      exact ⟨m, hW.keep m hm, hx⟩⟩
    have hsm := hkn'.same hW.inv (e := z[q]) (e' := (eh, ep)) (o := outs[q]) (o' := out) (List.getElem?_eq_getElem hq2) (List.getElem?_eq_getElem hq3) hW.has
    generalize z[q] = e2 at *
    obtain ⟨fh, fp⟩ := e2
    dsimp only at hsm
    have hlq : ∀ w', Only [] wq w' → w'.cell? ⟨bO, oO + q, none⟩ = some (.int .i64 outs[q]) := fun w' ho' => by
      rw [eO] at hrOq
      exact (hrOq.sl.o ho').ld (by rw [List.getElem?_map, List.getElem?_eq_getElem hq3]; rfl)
    generalize outs[q] = oq at *
    rw [eO]
    conv => whnf
    refine VDraw.abs fun N7 hN7 => ?_
    refine VDraw.held (fun w' => Only [] wq w') [0, 1, 2, 3, 4, 5, 6, 7, 8, 9, 11, 10, 12, 13, 14, 15, 16, 17, 18, 20, 19, 21, 22, 23, 24] (by kernel_rfl) (by kernel_rfl) ((Only.refl [] wq).drew) ?_
    conv => whnf
    refine ⟨_, _, rfl, q, oO + q, rfl, by omega, p1 _ _, ?_⟩
    conv => whnf
    refine ⟨.int .i64 oq, fun w' hw' => Loads.one (by kernel_rfl) (hlq w' hw'), ?_⟩
    conv => whnf
    refine ⟨_, _, rfl, q, off + q * 2, rfl, by omega, rfl, ?_⟩
    conv => whnf
    refine ⟨_, hlo, ?_⟩
    conv => whnf
    refine ⟨_, fun w' hw' => Loads.all (b17q.only hw' (by simp)) (by kernel_rfl) (by kernel_rfl), ?_⟩
    conv => whnf
    refine (endAddr_does (h := fh) (p := fp)).mono ?_
    rintro v wa1 ⟨rfl, hoa1⟩
    have hqa1 : Only [] wq wa1 := ((Only.refl [] wq).drew).t0 hoa1
    refine ⟨hqa1, ?_⟩
    conv => whnf
    refine (endAddr_does (h := eh) (p := ep)).mono ?_
    rintro v wa2 ⟨rfl, hoa2⟩
    have hqa2 : Only [] wq wa2 := hqa1.t0 hoa2
    refine ⟨hqa2, ?_⟩
    conv => whnf
    refine ⟨_, eql_ad (host_ok fh) (host_ok eh) _ _, ?_⟩
    conv => whnf
    refine VIf.of (b := decide (hostA fh = hostA eh)) (fun hh => ?_) (fun hh => ?_)
    · have hh := of_decide_eq_true hh
      conv => whnf
      refine ⟨_, _, rfl, q, off + q * 2, rfl, by omega, rfl, ?_⟩
      conv => whnf
      refine ⟨_, hlo, ?_⟩
      conv => whnf
      refine ⟨_, fun w' hw' => Loads.all (b17q.only hw' (by simp)) (by kernel_rfl) (by kernel_rfl), ?_⟩
      conv => whnf
      refine (endPort_does (h := fh) (p := fp)).mono ?_
      rintro v wa3 ⟨rfl, hoa3⟩
      have hqa3 : Only [] wq wa3 := hqa2.t0 hoa3
      refine ⟨hqa3, ?_⟩
      conv => whnf
      refine (endPort_does (h := eh) (p := ep)).mono ?_
      rintro v wa4 ⟨rfl, hoa4⟩
      have hqa4 : Only [] wq wa4 := hqa3.t0 hoa4
      refine ⟨hqa4, ?_⟩
      conv => whnf
      refine hN7 _ _ ?_
      have hbb : ((oq == out) != (andI .i64 fp 65535 == andI .i64 ep 65535)) = false := by
        have e3 : (oq == out) = (andI .i64 fp 65535 == andI .i64 ep 65535) := by
          rw [Bool.eq_iff_iff, beq_iff_eq, beq_iff_eq]
          exact ⟨fun e => (hsm.1 e).2, fun e => hsm.2 ⟨hh, e⟩⟩
        rw [e3]
        simp
      refine vc.no (congrArg Value.bool hbb) ?_
      refine vc.skip ?_
      conv => whnf
      exact ⟨q + 1, ⟨congrArg (Value.int .i64) eq1, trivial⟩, ⟨by omega, hoq.t0 hqa4⟩, by omega⟩
    · have hh := of_decide_eq_false hh
      have hno : oq ≠ out := fun e => hh (hsm.1 e).1
      conv => whnf
      refine hN7 _ _ ?_
      refine vc.no (congrArg Value.bool (show ((oq == out) != false) = false by rw [beq_eq_false_iff_ne.2 hno]; rfl)) ?_
      refine vc.skip ?_
      conv => whnf
      exact ⟨q + 1, ⟨congrArg (Value.int .i64) eq1, trivial⟩, ⟨by omega, hoq.t0 hqa2⟩, by omega⟩
  · conv => whnf
    refine hN6 _ _ ?_
    refine vc.no rfl ?_
    refine vc.skip ?_
    conv => whnf
    refine VLoop.inv (α := Nat) [(10, 11), (25, 26), (177, 207)] (fun q => [(25, .int .i64 q)]) (fun q w' => q ≤ i ∧ Only [] wz w') (fun q => i - q) 0 (by kernel_rfl) ⟨rfl, trivial⟩ ⟨Nat.zero_le _, Only.refl _ _⟩ ?_
    rintro q wq jq ⟨hq, hoq⟩
    have hzq := (hz.o hWf).o ((hfz).t0 hoq)
    have b17q := b17z.only hoq (by simp)
    have hrOq := hrOf.only (hfz.t0 hoq) (by simp)
    conv => whnf
    refine VIf.dec (fun htq => ?_) (fun htq => ?_)
    rotate_left
    · have hfq : Only [] wf wq := hfz.t0 hoq
      have hrOl := hrO.lt
      have hFOF' : ∀ k ∈ FO, k ∉ F' := fun k hk hm => by
        rcases hF' k hm with h | h
        · exact (hFO k hk).2 h
        · have h1 := hrOl k hk
          have h2 := hre.size
          omega
      have hal := (Only.refl [] wq).alloc (.cells ⟨[Value.int .i64 out]⟩ 3)
      conv => whnf
      refine vFall.append 3 1 8 rfl (by kernel_rfl) rfl (hrOq.alloc _) rfl (Sl.new wq 3 1 [Value.int .i64 out] 1 rfl) (by simp [Value.oneCell']) (by omega) (by omega) ?_
      intro A5 c5 F5 w5' hr5 ho5' hF5
      have hStq := (hSt'.o hfq)
      have hlt' := hStq.lt
      have hqal : Only FO wq w5' := hal.zf ho5'
      have hN0r : N0 ≤ wr.heap.size := by rw [hN0]; exact ho.size
      have hsz1 := hre.size
      have hsz2 := hfq.size
      have hsz3 := hof.size
      have hFT : ∀ k ∈ F', k = T ∨ N0 ≤ k := fun k hk => by
        rcases hF' k hk with h | h
        · exact hF k h
        · exact .inr (by omega)
      have hOn : Only [T] w6 w5' := by
        have h1 : Only [T] w6 wf := ho.trans hrf (fun k hk => by
          rcases hF k hk with e | e
          · exact .inl (by simp [e])
          · exact .inr (by omega))
        have h2 : Only [T] w6 wq := h1.f0 hfq
        exact h2.trans hqal (fun k hk => .inr (by have := (hFO k hk).1; omega))
      conv => whnf
      refine ⟨(i + 1, A5, c5, F5, outs ++ [out], r.2.2, F'), ⟨rfl, congrArg (Value.int .i64) ei, trivial⟩, ⟨by show i + 1 ≤ n; omega, by show i + 1 ≤ 20; omega, by simp [hol], ?_, hr5.cast (by simp), hW.inv, hW.cf.trans hscf, Nat.le_trans hW.num (by omega), ?_, (hStq.only hqal (fun k hk hm => hFOF' k hm hk)), hFT, ?_, hOn⟩, by show n - (i + 1) < n - i; omega⟩
      · intro o ho2
        rcases List.mem_append.1 ho2 with h | h
        · exact hobd o h
        · rw [List.mem_singleton.1 h]
          exact hbd
      · refine ⟨by simp [hol]; omega, fun j e o h1 h2 => ?_⟩
        by_cases hj : j < outs.length
        · rw [List.getElem?_append_left hj] at h2
          obtain ⟨m, hm, hx⟩ := hkn.2 j e o h1 h2
          exact ⟨m, hW.keep m hm, hx⟩
        · rw [List.getElem?_append_right (by omega)] at h2
          obtain rfl : j = outs.length := by
            have := (List.getElem?_eq_some_iff.1 h2).1
            simp at this
            omega
          have ho2 : out = o := by simpa using h2
          rw [hol, List.getElem?_eq_getElem hi2, hze] at h1
          have he2 : (eh, ep) = e := Option.some.inj h1
          rw [← he2, ← ho2]
          exact hW.has
      · intro k hk
        rcases hF5 k hk with h | h
        · exact ⟨(hFO k h).1, hFOF' k h⟩
        · have h3 : wq.heap.size ≤ k := Nat.le_trans hal.size h
          exact ⟨by omega, fun hm => by have := hlt' k hm; omega⟩
    have htq : (q : Int) < (i : Int) := htq
    have hq2 : q < z.length := by omega
    have hq3 : q < outs.length := by omega
    have eq1 : IntKind.i64.wrap ((q : Int) + 1) = ((q + 1 : Nat) : Int) := by rw [wi64]; omega
    obtain ⟨bO, oO, eO, -⟩ := hrOq.sl.some_ (by omega)
    have hlo : ∀ w', Only [] wq w' → Loads Tryz.prog 66 ⟨b, off + q * 2, none⟩ w' (.agg ⟨encEnd z[q]⟩) := fun w' ho' => (hzq.o ho').elem encEnd_len hq2 (by kernel_rfl) (by kernel_rfl)
    have hkn' : Known r.2.2 z outs := ⟨hkn.1, fun j e o h1 h2 => by
      obtain ⟨m, hm, hx⟩ := hkn.2 j e o h1 h2
      exact ⟨m, hW.keep m hm, hx⟩⟩
    have hsm := hkn'.same hW.inv (e := z[q]) (e' := (eh, ep)) (o := outs[q]) (o' := out) (List.getElem?_eq_getElem hq2) (List.getElem?_eq_getElem hq3) hW.has
    generalize z[q] = e2 at *
    obtain ⟨fh, fp⟩ := e2
    dsimp only at hsm
    have hlq : ∀ w', Only [] wq w' → w'.cell? ⟨bO, oO + q, none⟩ = some (.int .i64 outs[q]) := fun w' ho' => by
      rw [eO] at hrOq
      exact (hrOq.sl.o ho').ld (by rw [List.getElem?_map, List.getElem?_eq_getElem hq3]; rfl)
    generalize outs[q] = oq at *
    rw [eO]
    conv => whnf
    refine VDraw.abs fun N7 hN7 => ?_
    refine VDraw.held (fun w' => Only [] wq w') [0, 1, 2, 3, 4, 5, 6, 7, 8, 9, 11, 10, 12, 13, 14, 15, 16, 17, 18, 20, 19, 21, 22, 23, 24] (by kernel_rfl) (by kernel_rfl) ((Only.refl [] wq).drew) ?_
    conv => whnf
    refine ⟨_, _, rfl, q, oO + q, rfl, by omega, p1 _ _, ?_⟩
    conv => whnf
    refine ⟨.int .i64 oq, fun w' hw' => Loads.one (by kernel_rfl) (hlq w' hw'), ?_⟩
    conv => whnf
    refine ⟨_, _, rfl, q, off + q * 2, rfl, by omega, rfl, ?_⟩
    conv => whnf
    refine ⟨_, hlo, ?_⟩
    conv => whnf
    refine ⟨_, fun w' hw' => Loads.all (b17q.only hw' (by simp)) (by kernel_rfl) (by kernel_rfl), ?_⟩
    conv => whnf
    refine (endAddr_does (h := fh) (p := fp)).mono ?_
    rintro v wa1 ⟨rfl, hoa1⟩
    have hqa1 : Only [] wq wa1 := ((Only.refl [] wq).drew).t0 hoa1
    refine ⟨hqa1, ?_⟩
    conv => whnf
    refine (endAddr_does (h := eh) (p := ep)).mono ?_
    rintro v wa2 ⟨rfl, hoa2⟩
    have hqa2 : Only [] wq wa2 := hqa1.t0 hoa2
    refine ⟨hqa2, ?_⟩
    conv => whnf
    refine ⟨_, eql_ad (host_ok fh) (host_ok eh) _ _, ?_⟩
    conv => whnf
    refine VIf.of (b := decide (hostA fh = hostA eh)) (fun hh => ?_) (fun hh => ?_)
    · have hh := of_decide_eq_true hh
      conv => whnf
      refine ⟨_, _, rfl, q, off + q * 2, rfl, by omega, rfl, ?_⟩
      conv => whnf
      refine ⟨_, hlo, ?_⟩
      conv => whnf
      refine ⟨_, fun w' hw' => Loads.all (b17q.only hw' (by simp)) (by kernel_rfl) (by kernel_rfl), ?_⟩
      conv => whnf
      refine (endPort_does (h := fh) (p := fp)).mono ?_
      rintro v wa3 ⟨rfl, hoa3⟩
      have hqa3 : Only [] wq wa3 := hqa2.t0 hoa3
      refine ⟨hqa3, ?_⟩
      conv => whnf
      refine (endPort_does (h := eh) (p := ep)).mono ?_
      rintro v wa4 ⟨rfl, hoa4⟩
      have hqa4 : Only [] wq wa4 := hqa3.t0 hoa4
      refine ⟨hqa4, ?_⟩
      conv => whnf
      refine hN7 _ _ ?_
      have hbb : ((oq == out) != (andI .i64 fp 65535 == andI .i64 ep 65535)) = false := by
        have e3 : (oq == out) = (andI .i64 fp 65535 == andI .i64 ep 65535) := by
          rw [Bool.eq_iff_iff, beq_iff_eq, beq_iff_eq]
          exact ⟨fun e => (hsm.1 e).2, fun e => hsm.2 ⟨hh, e⟩⟩
        rw [e3]
        simp
      refine vc.no (congrArg Value.bool hbb) ?_
      refine vc.skip ?_
      conv => whnf
      exact ⟨q + 1, ⟨congrArg (Value.int .i64) eq1, trivial⟩, ⟨by omega, hoq.t0 hqa4⟩, by omega⟩
    · have hh := of_decide_eq_false hh
      have hno : oq ≠ out := fun e => hh (hsm.1 e).1
      conv => whnf
      refine hN7 _ _ ?_
      refine vc.no (congrArg Value.bool (show ((oq == out) != false) = false by rw [beq_eq_false_iff_ne.2 hno]; rfl)) ?_
      refine vc.skip ?_
      conv => whnf
      exact ⟨q + 1, ⟨congrArg (Value.int .i64) eq1, trivial⟩, ⟨by omega, hoq.t0 hqa2⟩, by omega⟩
end Go.Proofs.YtofomopdaponbaaGreatDoor
