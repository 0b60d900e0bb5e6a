/-
  udp.Build: a datagram is laid.
-/
import Derived.Test.YtofomopdaponbaaGreatDoorYNwr
import Derived.Test.YtofomopdaponbaaGreatDoorYNud
import Derived.Test.YtofomopdaponbaaGreatDoorYNbe
namespace Go.Proofs.YtofomopdaponbaaGreatDoor
open Go.RowKit
set_option linter.unusedVariables false
set_option linter.unusedSimpArgs false

def w16 (v : Int) : List UInt8 := [hiB v] ++ [loB v]
/-- A datagram ahead of its sum. -/
def dat0 (sp dp : Int) (l : List UInt8) : List UInt8 := [] ++ [hiB sp] ++ [loB sp] ++ [hiB dp] ++ [loB dp] ++ [hiB (8 + l.length)] ++ [loB (8 + l.length)] ++ [hiB 0] ++ [loB 0] ++ l
theorem dat0_len (sp dp : Int) (l : List UInt8) : (dat0 sp dp l).length = 8 + l.length := by simp [dat0]; omega
def sumOf (a b : Ad) (l : List UInt8) : Int := if 65535 - wholeI a b l = 0 then 65535 else 65535 - wholeI a b l
def datL (a b : Ad) (d : Dg) : List UInt8 := if d.nosum = true then dat0 d.sport d.dport d.data else setW (dat0 d.sport d.dport d.data) 6 (sumOf a b (dat0 d.sport d.dport d.data))
set_option maxRecDepth 100000 in
theorem port_does {w : World} {v : Int} (h0 : 0 ≤ v) (h1 : v ≤ 65535) : Does Tryz.prog 154 [.int .i64 v] w (fun r w' => r = .bool true ∧ w = w') := by
  refine Does.enter (fn := Tryz.f154) (by kernel_rfl) rfl (by kernel_rfl) (by kernel_rfl) ?_
  conv => whnf
  refine VIf.dec (fun _ => ?_) (fun h => (h h0).elim)
  conv => whnf
  exact ⟨congrArg Value.bool (decide_eq_true h1), rfl⟩
set_option maxRecDepth 100000 in
theorem udpBuild_does {w : World} {a b : Ad} {d : Dg} {D : At} (ha : okAd a) (hb : okAd b) (hp : pairA a b = true) (h4 : a.1 = 4) (hd : Dgs w d D 0) (hs : 0 ≤ d.sport ∧ d.sport ≤ 65535) (ht : 0 ≤ d.dport ∧ d.dport ≤ 65535) (hn : d.data.length ≤ 65507) :
    Does Tryz.prog 74 [.agg ⟨adC a⟩, .agg ⟨adC b⟩, .agg ⟨dgC d D⟩] w (fun r w' => ∃ A c FX, r = .tuple ⟨[.slice A (datL a b d).length c, .int .i64 0]⟩ ∧ Row w' 5 1 FX A (datL a b d).length c ((datL a b d).map u8) ∧ Only [] w w' ∧ (∀ k ∈ FX, w.heap.size ≤ k)) := by
  have hA := ((Only.alloc (Only.refl [] w) (.cells ⟨adC a⟩ 24)).alloc (.cells ⟨adC b⟩ 24)).alloc (.cells ⟨dgC d D⟩ 61)
  have b30 := ((Blk.new w 24 ⟨adC a⟩).alloc (.cells ⟨adC b⟩ 24)).alloc (.cells ⟨dgC d D⟩ 61)
  have b40 := (Blk.new (w.alloc (.cells ⟨adC a⟩ 24)) 24 ⟨adC b⟩).alloc (.cells ⟨dgC d D⟩ 61)
  have b50 := Blk.new ((w.alloc (.cells ⟨adC a⟩ 24)).alloc (.cells ⟨adC b⟩ 24)) 61 ⟨dgC d D⟩
  obtain ⟨⟨G, hG, hGB⟩, hdc, hdm⟩ := hd
  have hGA := hG.o hA
  obtain ⟨sp, dp, ns, l⟩ := d
  obtain ⟨v, x⟩ := a
  have h4 : v = 4 := h4
  subst h4
  dsimp only at hG hGB hdc hdm hGA hs ht hn
  have hl := hG.len
  have hGl : ∀ k ∈ G, k < w.heap.size := fun k hk => (hGB k hk).2
  refine Does.enter (fn := Tryz.f74) (by kernel_rfl) rfl (by kernel_rfl) (by kernel_rfl) ?_
  conv => whnf
  refine VJoin.go (by kernel_rfl) ?_
  conv => whnf
  refine ⟨_, Loads.all b30 (by kernel_rfl) (by rw [adC_len ha]; kernel_rfl), ?_⟩
  conv => whnf
  refine ⟨_, Loads.all b40 (by kernel_rfl) (by rw [adC_len hb]; kernel_rfl), ?_⟩
  conv => whnf
  refine (pair_does ha hb).mono ?_
  rw [hp]
  rintro r w1 ⟨rfl, ho1⟩
  have b31 := b30.only ho1 (by simp)
  have b41 := b40.only ho1 (by simp)
  have b51 := b50.only ho1 (by simp)
  have hw1 := hA.t0 ho1
  conv => whnf
  refine ⟨.int .i64 sp, Loads.one (by kernel_rfl) (b51.at (i := 0) rfl), ?_⟩
  conv => whnf
  refine (port_does hs.1 hs.2).mono ?_
  rintro r w2 ⟨rfl, rfl⟩
  conv => whnf
  refine ⟨.int .i64 dp, Loads.one (by kernel_rfl) (b51.at (i := 1) rfl), ?_⟩
  conv => whnf
  refine (port_does ht.1 ht.2).mono ?_
  rintro r w3 ⟨rfl, rfl⟩
  cases ns
  · conv => whnf
    refine ⟨.bool false, Loads.one (by kernel_rfl) (b51.at (i := 2) rfl), ?_⟩
    conv => whnf
    refine VDraw.abs fun N0 hN => ?_
    refine VDraw.q (by kernel_rfl) (by kernel_rfl) ?_
    conv => whnf
    refine ⟨.slice D.1 l.length D.2, fun w' hw' => Loads.one (by kernel_rfl) ((b51.only hw' (by simp)).at (i := 3) rfl), ?_⟩
    conv => whnf
    refine ⟨.int .i64 4, fun w' hw' => Loads.one (by kernel_rfl) ((b31.only hw' (by simp)).at (i := 0) rfl), ?_⟩
    conv => whnf
    refine ⟨_, fun w' hw' => most_does.qe hw', ?_⟩
    rw [show mostI 4 = 65507 from rfl]
    conv => whnf
    intro w4 ho4
    refine hN _ _ ?_
    conv => whnf
    refine VIf.dec (fun hx => ?_) (fun _ => ?_)
    · have hx : (l.length : Int) > 65507 := hx
      omega
    have e8 : IntKind.i64.wrap (8 + (l.length : Int)) = 8 + l.length := wi_id (by omega) (by omega)
    have b3a := b31.only ho4 (by simp)
    have b4a := b41.only ho4 (by simp)
    have b5a := b51.only ho4 (by simp)
    have hwa := hw1.t0 ho4
    have hGa := hG.o hwa
    conv => whnf
    refine ⟨.slice D.1 l.length D.2, Loads.one (by kernel_rfl) (b5a.at (i := 3) rfl), ?_⟩
    conv => whnf
    rw [e8]
    refine (newWriter_does (by omega) (by omega)).mono ?_
    rintro r wb ⟨q, rfl, hq, hWb, hob⟩
    have hwab : Only [] w4 wb := hob
    have b3b := b3a.only hob (by simp)
    have b4b := b4a.only hob (by simp)
    have b5b := b5a.only hob (by simp)
    have hGb := hGa.o hob
    have hwb : Only [] w4 wb := hob
    have hEb : ∀ k ∈ [q], w4.heap.size ≤ k := fun k hk => by
      obtain rfl : k = q := by simpa using hk
      exact hq
    have z3 := b3a.lt
    have z4 := b4a.lt
    have z5 := b5a.lt
    have zw := hwa.size
    have e16 : IntKind.u16.wrap (8 + (l.length : Int)) = 8 + l.length := by rw [wr16]; omega
    have es : IntKind.u16.wrap sp = sp := by rw [wr16]; omega
    have ed : IntKind.u16.wrap dp = dp := by rw [wr16]; omega
    conv => whnf
    refine ⟨.int .i64 sp, Loads.one (by kernel_rfl) (b5b.at (i := 0) rfl), ?_⟩
    conv => whnf
    rw [es]
    refine (u16_does (v := sp) hWb (by simp; omega) (by omega) hs.1 hs.2).mono ?_
    rintro r wc ⟨rfl, Fc, hWc, howc, hFc⟩
    have hEc : ∀ k ∈ Fc, w4.heap.size ≤ k := fun k hk => (hFc k hk).elim (fun h => hEb k h) (fun h => Nat.le_trans hwb.size h)
    have hwc : Only [] w4 wc := hwb.trans howc (fun k hk => .inr (hEb k hk))
    have b3c := b3b.only howc (fun hm => by have := hEb _ hm; omega)
    have b4c := b4b.only howc (fun hm => by have := hEb _ hm; omega)
    have b5c := b5b.only howc (fun hm => by have := hEb _ hm; omega)
    have hGc := hGb.only howc (fun k hk hm => by have := hEb _ hm; have := hGl k hk; omega)
    conv => whnf
    refine ⟨.int .i64 dp, Loads.one (by kernel_rfl) (b5c.at (i := 1) rfl), ?_⟩
    conv => whnf
    rw [ed]
    refine (u16_does (v := dp) hWc (by simp; omega) (by omega) ht.1 ht.2).mono ?_
    rintro r wd ⟨rfl, Fd, hWd, howd, hFd⟩
    have hEd : ∀ k ∈ Fd, w4.heap.size ≤ k := fun k hk => (hFd k hk).elim (fun h => hEc k h) (fun h => Nat.le_trans hwc.size h)
    have hwd : Only [] w4 wd := hwc.trans howd (fun k hk => .inr (hEc k hk))
    have b3d := b3c.only howd (fun hm => by have := hEc _ hm; omega)
    have b4d := b4c.only howd (fun hm => by have := hEc _ hm; omega)
    have b5d := b5c.only howd (fun hm => by have := hEc _ hm; omega)
    have hGd := hGc.only howd (fun k hk hm => by have := hEc _ hm; have := hGl k hk; omega)
    conv => whnf
    refine ⟨.slice D.1 l.length D.2, Loads.one (by kernel_rfl) (b5d.at (i := 3) rfl), ?_⟩
    conv => whnf
    rw [e8, e16]
    refine (u16_does (v := 8 + (l.length : Int)) hWd (by simp; omega) (by omega) (by omega) (by omega)).mono ?_
    rintro r we ⟨rfl, Fe, hWe, howe, hFe⟩
    have hEe : ∀ k ∈ Fe, w4.heap.size ≤ k := fun k hk => (hFe k hk).elim (fun h => hEd k h) (fun h => Nat.le_trans hwd.size h)
    have hwe : Only [] w4 we := hwd.trans howe (fun k hk => .inr (hEd k hk))
    have b3e := b3d.only howe (fun hm => by have := hEd _ hm; omega)
    have b4e := b4d.only howe (fun hm => by have := hEd _ hm; omega)
    have b5e := b5d.only howe (fun hm => by have := hEd _ hm; omega)
    have hGe := hGd.only howe (fun k hk hm => by have := hEd _ hm; have := hGl k hk; omega)
    conv => whnf
    refine (u16_does (v := 0) hWe (by simp; omega) (by omega) (by omega) (by omega)).mono ?_
    rintro r wf ⟨rfl, Ff, hWf, howf, hFf⟩
    have hEf : ∀ k ∈ Ff, w4.heap.size ≤ k := fun k hk => (hFf k hk).elim (fun h => hEe k h) (fun h => Nat.le_trans hwe.size h)
    have hwf : Only [] w4 wf := hwe.trans howf (fun k hk => .inr (hEe k hk))
    have b3f := b3e.only howf (fun hm => by have := hEe _ hm; omega)
    have b4f := b4e.only howf (fun hm => by have := hEe _ hm; omega)
    have b5f := b5e.only howf (fun hm => by have := hEe _ hm; omega)
    have hGf := hGe.only howf (fun k hk hm => by have := hEe _ hm; have := hGl k hk; omega)
    conv => whnf
    refine ⟨.slice D.1 l.length D.2, Loads.one (by kernel_rfl) (b5f.at (i := 3) rfl), ?_⟩
    conv => whnf
    refine (wbytes_does hWf hGf (by simp; omega) (by omega)).mono ?_
    rintro r wg ⟨rfl, Fg, hWg, howg, hFg⟩
    have hEg : ∀ k ∈ Fg, w4.heap.size ≤ k := fun k hk => (hFg k hk).elim (fun h => hEf k h) (fun h => Nat.le_trans hwf.size h)
    have hwg : Only [] w4 wg := hwf.trans howg (fun k hk => .inr (hEf k hk))
    have b3g := b3f.only howg (fun hm => by have := hEf _ hm; omega)
    have b4g := b4f.only howg (fun hm => by have := hEf _ hm; omega)
    have b5g := b5f.only howg (fun hm => by have := hEf _ hm; omega)
    have hGg := hGf.only howg (fun k hk hm => by have := hEf _ hm; have := hGl k hk; omega)
    have hWg : Wr wg q Fg (dat0 sp dp l) (8 + (l.length : Int)) := hWg
    have hl0 := dat0_len sp dp l
    have hwz := hwa.t0 hwg
    conv => whnf
    refine VJoin.go (by kernel_rfl) ?_
    conv => whnf
    refine ⟨.bool false, Loads.one (by kernel_rfl) (b5g.at (i := 2) rfl), ?_⟩
    conv => whnf
    refine (wout_does hWg (by omega)).mono ?_
    rintro r wh ⟨A, c, FX, rfl, hrow, hoh, hFX⟩
    have b3h := b3g.only hoh (by simp)
    have b4h := b4g.only hoh (by simp)
    conv => whnf
    refine ⟨_, Loads.all b3h (by kernel_rfl) (by rw [adC_len ha]; kernel_rfl), ?_⟩
    conv => whnf
    refine ⟨_, Loads.all b4h (by kernel_rfl) (by rw [adC_len hb]; kernel_rfl), ?_⟩
    conv => whnf
    refine (whole_does ha hb hp (Row.bs hrow) (by omega) hrow.le.1).mono ?_
    rintro r wi ⟨rfl, hoi⟩
    have hwI : 0 ≤ wholeI (4, x) b (dat0 sp dp l) ∧ wholeI (4, x) b (dat0 sp dp l) ≤ 65535 := addI_bd (pseudoI_bd _ _ (by decide) _).1 (partL_bd _).1
    have hso : 0 ≤ sumOf (4, x) b (dat0 sp dp l) ∧ sumOf (4, x) b (dat0 sp dp l) ≤ 65535 := by unfold sumOf; split <;> omega
    have hoa : Only [] wg wi := hoh.t0 hoi
    conv => whnf
    refine VJoin.cut (α := Unit) [(11, 12), (84, 86)] (fun _ => [(11, .int .u16 (sumOf (4, x) b (dat0 sp dp l)))]) (fun _ w' => w' = wi) (by kernel_rfl) ?_ ?_
    · conv => whnf
      rw [not_u16 hwI.1 hwI.2]
      refine VIf.eq (fun h0 => ?_) (fun h0 => ?_)
      · conv => whnf
        exact ⟨(), ⟨congrArg (Value.int .u16) (if_pos h0).symm, trivial⟩, rfl⟩
      · conv => whnf
        exact ⟨(), ⟨congrArg (Value.int .u16) (if_neg h0).symm, trivial⟩, rfl⟩
    rintro _ wr j rfl
    conv => whnf
    refine (put16_does (k := 6) (hWg.o hoa) (by omega) (by omega) hso.1 hso.2).mono ?_
    rintro r wj ⟨rfl, hWj, hoj⟩
    conv => whnf
    have hlj : (setW (dat0 sp dp l) 6 (sumOf (4, x) b (dat0 sp dp l))).length ≤ 140737488355328 := by rw [setW_len]; omega
    refine (wout_does hWj hlj).mono ?_
    rintro r wk ⟨A2, c2, FX2, rfl, hrow2, hok, hFX2⟩
    conv => whnf
    have hzj : Only [] w wj := (hwz.t0 hoa).trans hoj (fun k hk => .inr (by have := hEg k hk; omega))
    exact ⟨A2, c2, FX2, rfl, hrow2, hzj.t0 hok, fun k hk => by have := hFX2 k hk; have := hzj.size; omega⟩
  · conv => whnf
    refine ⟨.bool true, Loads.one (by kernel_rfl) (b51.at (i := 2) rfl), ?_⟩
    conv => whnf
    refine ⟨.int .i64 4, Loads.one (by kernel_rfl) (b31.at (i := 0) rfl), ?_⟩
    conv => whnf
    refine VDraw.abs fun N0 hN => ?_
    refine VDraw.q (by kernel_rfl) (by kernel_rfl) ?_
    conv => whnf
    refine ⟨.slice D.1 l.length D.2, fun w' hw' => Loads.one (by kernel_rfl) ((b51.only hw' (by simp)).at (i := 3) rfl), ?_⟩
    conv => whnf
    refine ⟨.int .i64 4, fun w' hw' => Loads.one (by kernel_rfl) ((b31.only hw' (by simp)).at (i := 0) rfl), ?_⟩
    conv => whnf
    refine ⟨_, fun w' hw' => most_does.qe hw', ?_⟩
    rw [show mostI 4 = 65507 from rfl]
    conv => whnf
    intro w4 ho4
    refine hN _ _ ?_
    conv => whnf
    refine VIf.dec (fun hx => ?_) (fun _ => ?_)
    · have hx : (l.length : Int) > 65507 := hx
      omega
    have e8 : IntKind.i64.wrap (8 + (l.length : Int)) = 8 + l.length := wi_id (by omega) (by omega)
    have b3a := b31.only ho4 (by simp)
    have b4a := b41.only ho4 (by simp)
    have b5a := b51.only ho4 (by simp)
    have hwa := hw1.t0 ho4
    have hGa := hG.o hwa
    conv => whnf
    refine ⟨.slice D.1 l.length D.2, Loads.one (by kernel_rfl) (b5a.at (i := 3) rfl), ?_⟩
    conv => whnf
    rw [e8]
    refine (newWriter_does (by omega) (by omega)).mono ?_
    rintro r wb ⟨q, rfl, hq, hWb, hob⟩
    have hwab : Only [] w4 wb := hob
    have b3b := b3a.only hob (by simp)
    have b4b := b4a.only hob (by simp)
    have b5b := b5a.only hob (by simp)
    have hGb := hGa.o hob
    have hwb : Only [] w4 wb := hob
    have hEb : ∀ k ∈ [q], w4.heap.size ≤ k := fun k hk => by
      obtain rfl : k = q := by simpa using hk
      exact hq
    have z3 := b3a.lt
    have z4 := b4a.lt
    have z5 := b5a.lt
    have zw := hwa.size
    have e16 : IntKind.u16.wrap (8 + (l.length : Int)) = 8 + l.length := by rw [wr16]; omega
    have es : IntKind.u16.wrap sp = sp := by rw [wr16]; omega
    have ed : IntKind.u16.wrap dp = dp := by rw [wr16]; omega
    conv => whnf
    refine ⟨.int .i64 sp, Loads.one (by kernel_rfl) (b5b.at (i := 0) rfl), ?_⟩
    conv => whnf
    rw [es]
    refine (u16_does (v := sp) hWb (by simp; omega) (by omega) hs.1 hs.2).mono ?_
    rintro r wc ⟨rfl, Fc, hWc, howc, hFc⟩
    have hEc : ∀ k ∈ Fc, w4.heap.size ≤ k := fun k hk => (hFc k hk).elim (fun h => hEb k h) (fun h => Nat.le_trans hwb.size h)
    have hwc : Only [] w4 wc := hwb.trans howc (fun k hk => .inr (hEb k hk))
    have b3c := b3b.only howc (fun hm => by have := hEb _ hm; omega)
    have b4c := b4b.only howc (fun hm => by have := hEb _ hm; omega)
    have b5c := b5b.only howc (fun hm => by have := hEb _ hm; omega)
    have hGc := hGb.only howc (fun k hk hm => by have := hEb _ hm; have := hGl k hk; omega)
    conv => whnf
    refine ⟨.int .i64 dp, Loads.one (by kernel_rfl) (b5c.at (i := 1) rfl), ?_⟩
    conv => whnf
    rw [ed]
    refine (u16_does (v := dp) hWc (by simp; omega) (by omega) ht.1 ht.2).mono ?_
    rintro r wd ⟨rfl, Fd, hWd, howd, hFd⟩
    have hEd : ∀ k ∈ Fd, w4.heap.size ≤ k := fun k hk => (hFd k hk).elim (fun h => hEc k h) (fun h => Nat.le_trans hwc.size h)
    have hwd : Only [] w4 wd := hwc.trans howd (fun k hk => .inr (hEc k hk))
    have b3d := b3c.only howd (fun hm => by have := hEc _ hm; omega)
    have b4d := b4c.only howd (fun hm => by have := hEc _ hm; omega)
    have b5d := b5c.only howd (fun hm => by have := hEc _ hm; omega)
    have hGd := hGc.only howd (fun k hk hm => by have := hEc _ hm; have := hGl k hk; omega)
    conv => whnf
    refine ⟨.slice D.1 l.length D.2, Loads.one (by kernel_rfl) (b5d.at (i := 3) rfl), ?_⟩
    conv => whnf
    rw [e8, e16]
    refine (u16_does (v := 8 + (l.length : Int)) hWd (by simp; omega) (by omega) (by omega) (by omega)).mono ?_
    rintro r we ⟨rfl, Fe, hWe, howe, hFe⟩
    have hEe : ∀ k ∈ Fe, w4.heap.size ≤ k := fun k hk => (hFe k hk).elim (fun h => hEd k h) (fun h => Nat.le_trans hwd.size h)
    have hwe : Only [] w4 we := hwd.trans howe (fun k hk => .inr (hEd k hk))
    have b3e := b3d.only howe (fun hm => by have := hEd _ hm; omega)
    have b4e := b4d.only howe (fun hm => by have := hEd _ hm; omega)
    have b5e := b5d.only howe (fun hm => by have := hEd _ hm; omega)
    have hGe := hGd.only howe (fun k hk hm => by have := hEd _ hm; have := hGl k hk; omega)
    conv => whnf
    refine (u16_does (v := 0) hWe (by simp; omega) (by omega) (by omega) (by omega)).mono ?_
    rintro r wf ⟨rfl, Ff, hWf, howf, hFf⟩
    have hEf : ∀ k ∈ Ff, w4.heap.size ≤ k := fun k hk => (hFf k hk).elim (fun h => hEe k h) (fun h => Nat.le_trans hwe.size h)
    have hwf : Only [] w4 wf := hwe.trans howf (fun k hk => .inr (hEe k hk))
    have b3f := b3e.only howf (fun hm => by have := hEe _ hm; omega)
    have b4f := b4e.only howf (fun hm => by have := hEe _ hm; omega)
    have b5f := b5e.only howf (fun hm => by have := hEe _ hm; omega)
    have hGf := hGe.only howf (fun k hk hm => by have := hEe _ hm; have := hGl k hk; omega)
    conv => whnf
    refine ⟨.slice D.1 l.length D.2, Loads.one (by kernel_rfl) (b5f.at (i := 3) rfl), ?_⟩
    conv => whnf
    refine (wbytes_does hWf hGf (by simp; omega) (by omega)).mono ?_
    rintro r wg ⟨rfl, Fg, hWg, howg, hFg⟩
    have hEg : ∀ k ∈ Fg, w4.heap.size ≤ k := fun k hk => (hFg k hk).elim (fun h => hEf k h) (fun h => Nat.le_trans hwf.size h)
    have hwg : Only [] w4 wg := hwf.trans howg (fun k hk => .inr (hEf k hk))
    have b3g := b3f.only howg (fun hm => by have := hEf _ hm; omega)
    have b4g := b4f.only howg (fun hm => by have := hEf _ hm; omega)
    have b5g := b5f.only howg (fun hm => by have := hEf _ hm; omega)
    have hGg := hGf.only howg (fun k hk hm => by have := hEf _ hm; have := hGl k hk; omega)
    have hWg : Wr wg q Fg (dat0 sp dp l) (8 + (l.length : Int)) := hWg
    have hl0 := dat0_len sp dp l
    have hwz := hwa.t0 hwg
    conv => whnf
    refine VJoin.go (by kernel_rfl) ?_
    conv => whnf
    refine ⟨.bool true, Loads.one (by kernel_rfl) (b5g.at (i := 2) rfl), ?_⟩
    conv => whnf
    refine (wout_does hWg (by omega)).mono ?_
    rintro r wh ⟨A, c, FX, rfl, hrow, hoh, hFX⟩
    conv => whnf
    exact ⟨A, c, FX, rfl, hrow, hwz.t0 hoh, fun k hk => by have := hFX k hk; have := hwz.size; omega⟩
end Go.Proofs.YtofomopdaponbaaGreatDoor
/-
  ip4.Build: a packet is laid.
-/
namespace Go.Proofs.YtofomopdaponbaaGreatDoor
open Go.RowKit
set_option linter.unusedVariables false
set_option linter.unusedSimpArgs false

def flagsI (p : Pk) : Int := if p.more = true then orI .u16 (if p.df = true then orI .u16 (p.off / 8) 16384 else p.off / 8) 8192 else if p.df = true then orI .u16 (p.off / 8) 16384 else p.off / 8
theorem orI_bd (a b : Int) : 0 ≤ orI .u16 a b ∧ orI .u16 a b ≤ 65535 := by
  unfold orI
  rw [wr16]
  omega
theorem flagsI_bd {p : Pk} (h : 0 ≤ p.off ∧ p.off ≤ 65528) : 0 ≤ flagsI p ∧ flagsI p ≤ 65535 := by
  unfold flagsI
  split
  · exact orI_bd _ _
  · split
    · exact orI_bd _ _
    · omega
/-- A head ahead of its sum. -/
def head0 (p : Pk) (n : Int) : List UInt8 := [] ++ [loB ((64 + n / 4) % 256)] ++ [loB p.tos] ++ [hiB (n + p.data.length)] ++ [loB (n + p.data.length)] ++ [hiB p.id] ++ [loB p.id] ++ [hiB (flagsI p)] ++ [loB (flagsI p)] ++ [loB p.ttl] ++ [loB p.proto] ++ [hiB 0] ++ [loB 0] ++ p.src.2.take 4 ++ p.dst.2.take 4 ++ p.opts
def packL (p : Pk) : List UInt8 := setW (head0 p (20 + p.opts.length)) 10 (ofL (head0 p (20 + p.opts.length))) ++ p.data
theorem head0_len {p : Pk} (ok : okPk p) (n : Int) : (head0 p n).length = 20 + p.opts.length := by
  have h1 := ok.src.2.2
  have h2 := ok.dst.2.2
  have e1 : min 4 p.src.2.length = 4 := by omega
  have e2 : min 4 p.dst.2.length = 4 := by omega
  simp [head0, e1, e2]
  omega
theorem Bs.tight {w : World} {G : List Nat} {A : Option Addr} {n : Nat} {l : List UInt8} (h : Bs w G A n l) : ∃ G', Bs w G' A n l ∧ ∀ k ∈ G', k < w.heap.size := by
  rcases Nat.eq_zero_or_pos n with rfl | hn
  · have hl := h.len
    obtain rfl : l = [] := List.length_eq_zero_iff.1 hl
    exact ⟨[], Sl.nil _ _ _ _, by simp⟩
  · obtain ⟨b, off, rfl, -⟩ := h.some_ hn
    exact ⟨[b], Sl.single h, fun k hk => by
      obtain rfl : k = b := by simpa using hk
      exact Sl.lt1 h hn⟩
structure Rgt (p : Pk) : Prop where
  tos : 0 ≤ p.tos ∧ p.tos ≤ 255
  proto : 0 ≤ p.proto ∧ p.proto ≤ 255
  ttl : 0 ≤ p.ttl ∧ p.ttl ≤ 255
  id : p.id ≤ 65535
  off : 0 ≤ p.off ∧ p.off ≤ 65528
  len : 20 + p.opts.length + p.data.length ≤ 65535
theorem rgt_of {p : Pk} (h : rightP p = true) : Rgt p := by
  unfold rightP withinI at h
  simp only [Bool.and_eq_true, decide_eq_true_eq] at h
  obtain ⟨⟨⟨⟨⟨⟨⟨⟨⟨⟨⟨h1, h2⟩, h3⟩, h4⟩, h5⟩, h6⟩, h7⟩, h8⟩, h9⟩, h10⟩, h11⟩, h12⟩ := h
  have ho : 0 ≤ p.off ∧ p.off ≤ 65528 := by
    unfold placedP withinI at h10
    simp at h10
    omega
  exact ⟨h7, h8, h9, h4, ho, h12⟩
set_option maxRecDepth 100000 in
theorem flags_does {w : World} {p : Pk} {O D : At} (ok : okPk p) (ho : 0 ≤ p.off ∧ p.off ≤ 65528) : Does Tryz.prog 83 [.agg ⟨pkC p O D⟩] w (fun v w' => v = .int .u16 (flagsI p) ∧ Only [] w w') := by
  have hA := Only.alloc (Only.refl [] w) (.cells ⟨pkC p O D⟩ 56)
  have b1 := Blk.new w 56 ⟨pkC p O D⟩
  have e1 : IntKind.u16.wrap (IntKind.i64.wrap (p.off.tdiv 8)) = p.off / 8 := by
    rw [Int.tdiv_eq_ediv_of_nonneg ho.1, wi64, wr16]
    omega
  refine Does.enter (fn := Tryz.f83) (by kernel_rfl) rfl (by kernel_rfl) (by kernel_rfl) ?_
  conv => whnf
  refine ⟨_, Loads.one (by kernel_rfl) (b1.pkOff ok), ?_⟩
  conv => whnf
  rw [e1]
  refine VJoin.cut (α := Unit) [(3, 4), (8, 12)] (fun _ => [(3, .int .u16 (if p.df = true then orI .u16 (p.off / 8) 16384 else p.off / 8))]) (fun _ w' => w' = w.alloc (.cells ⟨pkC p O D⟩ 56)) (by kernel_rfl) ?_ ?_
  · conv => whnf
    refine ⟨_, Loads.one (by kernel_rfl) (b1.pkDf ok), ?_⟩
    conv => whnf
    refine VIf.of (b := p.df) (fun h => ?_) (fun h => ?_)
    · conv => whnf
      exact ⟨(), ⟨congrArg (Value.int .u16) (if_pos h).symm, trivial⟩, rfl⟩
    · conv => whnf
      exact ⟨(), ⟨congrArg (Value.int .u16) (if_neg (by rw [h]; decide)).symm, trivial⟩, rfl⟩
  rintro _ wr j rfl
  conv => whnf
  refine VJoin.cut (α := Unit) [(3, 4), (12, 16)] (fun _ => [(3, .int .u16 (flagsI p))]) (fun _ w' => w' = w.alloc (.cells ⟨pkC p O D⟩ 56)) (by kernel_rfl) ?_ ?_
  · conv => whnf
    refine ⟨_, Loads.one (by kernel_rfl) (b1.pkMore ok), ?_⟩
    conv => whnf
    refine VIf.of (b := p.more) (fun h => ?_) (fun h => ?_)
    · conv => whnf
      exact ⟨(), ⟨congrArg (Value.int .u16) (if_pos h).symm, trivial⟩, rfl⟩
    · conv => whnf
      exact ⟨(), ⟨congrArg (Value.int .u16) (if_neg (by rw [h]; decide)).symm, trivial⟩, rfl⟩
  rintro _ wr j rfl
  conv => whnf
  exact ⟨rfl, hA⟩
theorem loB_mod (v : Int) (h : 0 ≤ v) : loB (v % 256) = loB v := by
  unfold loB
  congr 1
  omega
theorem Blk.pkSrcB {w : World} {g : Nat} {t : TypeId} {p : Pk} {O D : At} (h : Blk w g t ⟨pkC p O D⟩) (ok : okPk p) : Bs w [g] (some ⟨g, 4, none⟩) 4 (p.src.2.take 4) := by
  have l1 := ok.src.2.2
  have hb : Blk w g t ⟨(pkH p ++ [.int .i64 p.src.1]) ++ ((p.src.2.take 4).map u8 ++ ((p.src.2.drop 4).map u8 ++ (adC p.dst ++ pkT p O D)))⟩ := by
    have e : (pkH p ++ [Value.int .i64 p.src.1]) ++ ((p.src.2.take 4).map u8 ++ ((p.src.2.drop 4).map u8 ++ (adC p.dst ++ pkT p O D))) = pkC p O D := by
      unfold pkC
      rw [show adC p.src = [Value.int .i64 p.src.1] ++ p.src.2.map u8 from rfl]
      conv => rhs; rw [show p.src.2 = p.src.2.take 4 ++ p.src.2.drop 4 from (List.take_append_drop 4 _).symm]
      simp
      rw [← List.append_assoc, List.take_append_drop]
    rw [e]
    exact h
  have := Bs.of_blk hb (o := 4) rfl
  rwa [show (p.src.2.take 4).length = 4 by rw [List.length_take]; omega] at this
theorem Blk.pkDstB {w : World} {g : Nat} {t : TypeId} {p : Pk} {O D : At} (h : Blk w g t ⟨pkC p O D⟩) (ok : okPk p) : Bs w [g] (some ⟨g, 21, none⟩) 4 (p.dst.2.take 4) := by
  have l1 := ok.src.2.2
  have l2 := ok.dst.2.2
  have hb : Blk w g t ⟨(pkH p ++ (adC p.src ++ [.int .i64 p.dst.1])) ++ ((p.dst.2.take 4).map u8 ++ ((p.dst.2.drop 4).map u8 ++ pkT p O D))⟩ := by
    have e : (pkH p ++ (adC p.src ++ [Value.int .i64 p.dst.1])) ++ ((p.dst.2.take 4).map u8 ++ ((p.dst.2.drop 4).map u8 ++ pkT p O D)) = pkC p O D := by
      unfold pkC
      rw [show adC p.dst = [Value.int .i64 p.dst.1] ++ p.dst.2.map u8 from rfl]
      conv => rhs; rw [show p.dst.2 = p.dst.2.take 4 ++ p.dst.2.drop 4 from (List.take_append_drop 4 _).symm]
      simp
      rw [← List.append_assoc, List.take_append_drop]
    rw [e]
    exact h
  have := Bs.of_blk hb (o := 21) (by simp [pkH, adC_len ok.src])
  rwa [show (p.dst.2.take 4).length = 4 by rw [List.length_take]; omega] at this
set_option maxHeartbeats 4000000 in
set_option maxRecDepth 100000 in
theorem ipBuild_does {w : World} {p : Pk} {O D : At} (hp : Pks w p O D 0) (hs : Shp w) (hr : rightP p = true) (hi : 0 ≤ p.id) :
    Does Tryz.prog 34 [.agg ⟨pkC p O D⟩] w (fun r w' => ∃ A c FX, r = .tuple ⟨[.slice A (packL p).length c, .int .i64 0]⟩ ∧ Row w' 5 1 FX A (packL p).length c ((packL p).map u8) ∧ Only [] w w' ∧ (∀ k ∈ FX, w.heap.size ≤ k)) := by
  have hA := Only.alloc (Only.refl [] w) (.cells ⟨pkC p O D⟩ 56)
  have b10 := Blk.new w 56 ⟨pkC p O D⟩
  have ok := hp.ok
  have R := rgt_of hr
  have hH : headP p = 20 + p.opts.length := if_pos hr
  have hpl := pk_len (O := O) (D := D) ok
  obtain ⟨r1, r2, r3, r4, r5, r6⟩ := R
  obtain ⟨G0, hO0, -⟩ := hp.opts
  obtain ⟨GO, hO, hGO⟩ := Bs.tight hO0
  obtain ⟨G1, hD0, -⟩ := hp.data
  obtain ⟨GD, hD, hGD⟩ := Bs.tight hD0
  have hpA := hp.o hA
  have hl0 := head0_len ok (20 + p.opts.length)
  have s4 : (p.src.2.take 4).length = 4 := by have := ok.src.2.2; rw [List.length_take]; omega
  have t4 : (p.dst.2.take 4).length = 4 := by have := ok.dst.2.2; rw [List.length_take]; omega
  refine Does.enter (fn := Tryz.f34) (by kernel_rfl) rfl (by kernel_rfl) (by kernel_rfl) ?_
  conv => whnf
  refine ⟨_, b10.pkAll ok, ?_⟩
  conv => whnf
  refine (head_does hpA (hs.o hA)).mono ?_
  rw [hH]
  rintro r w1 ⟨rfl, ho1⟩
  have b11 := b10.only ho1 (by simp)
  have hw1 := hA.t0 ho1
  conv => whnf
  refine VIf.eq (fun h => ?_) (fun _ => ?_)
  · have h : (20 : Int) + p.opts.length = 0 := h
    omega
  conv => whnf
  refine (newWriter_does (by decide) (by decide)).mono ?_
  rintro r wb ⟨q, rfl, hq, hWb, hob⟩
  have z1 := b11.lt
  have b1b := b11.only hob (by simp)
  have hwb : Only [] w1 wb := hob
  have hEb : ∀ k ∈ [q], w1.heap.size ≤ k := fun k hk => by
    obtain rfl : k = q := by simpa using hk
    exact hq
  have hOb := hO.o (hw1.t0 hob)
  have hDb := hD.o (hw1.t0 hob)
  have zw := hw1.size
  have v0 : IntKind.u8.wrap (IntKind.i64.wrap (64 + IntKind.i64.wrap ((20 + (p.opts.length : Int)).tdiv 4))) = (64 + (20 + (p.opts.length : Int)) / 4) % 256 := by
    rw [Int.tdiv_eq_ediv_of_nonneg (by omega)]
    have x1 : IntKind.i64.wrap ((20 + (p.opts.length : Int)) / 4) = (20 + (p.opts.length : Int)) / 4 := wi_id (by omega) (by omega)
    have x2 : IntKind.i64.wrap (64 + (20 + (p.opts.length : Int)) / 4) = 64 + (20 + (p.opts.length : Int)) / 4 := wi_id (by omega) (by omega)
    rw [x1, x2, wr8]
  have v1 : IntKind.u8.wrap p.tos = p.tos := by rw [wr8]; omega
  have v2 : IntKind.u16.wrap (IntKind.i64.wrap (20 + (p.opts.length : Int) + (p.data.length : Int))) = 20 + (p.opts.length : Int) + (p.data.length : Int) := by
    have x1 : IntKind.i64.wrap (20 + (p.opts.length : Int) + (p.data.length : Int)) = 20 + (p.opts.length : Int) + (p.data.length : Int) := wi_id (by omega) (by omega)
    rw [x1, wr16]
    exact Int.emod_eq_of_lt (by omega) (by omega)
  have v3 : IntKind.u16.wrap p.id = p.id := by rw [wr16]; omega
  have v5 : IntKind.u8.wrap p.ttl = p.ttl := by rw [wr8]; omega
  have v6 : IntKind.u8.wrap p.proto = p.proto := by rw [wr8]; omega
  have hfb := flagsI_bd r5
  conv => whnf
  rw [v0]
  refine (u8_does (v := (64 + (20 + (p.opts.length : Int)) / 4) % 256) hWb (by simp) (by decide) (by omega) (by omega)).mono ?_
  rintro r wc ⟨rfl, Fc, hWc, howc, hFc⟩
  have hEc : ∀ k ∈ Fc, w1.heap.size ≤ k := fun k hk => (hFc k hk).elim (fun h => hEb k h) (fun h => Nat.le_trans hwb.size h)
  have hwc : Only [] w1 wc := hwb.trans howc (fun k hk => .inr (hEb k hk))
  have b1c := b1b.only howc (fun hm => by have := hEb _ hm; omega)
  have hOc := hOb.only howc (fun k hk hm => by have := hEb _ hm; have := hGO k hk; omega)
  have hDc := hDb.only howc (fun k hk hm => by have := hEb _ hm; have := hGD k hk; omega)
  conv => whnf
  refine ⟨_, Loads.one (by kernel_rfl) (b1c.pkTos), ?_⟩
  conv => whnf
  rw [v1]
  refine (u8_does (v := p.tos) hWc (by simp) (by decide) r1.1 r1.2).mono ?_
  rintro r wd ⟨rfl, Fd, hWd, howd, hFd⟩
  have hEd : ∀ k ∈ Fd, w1.heap.size ≤ k := fun k hk => (hFd k hk).elim (fun h => hEc k h) (fun h => Nat.le_trans hwc.size h)
  have hwd : Only [] w1 wd := hwc.trans howd (fun k hk => .inr (hEc k hk))
  have b1d := b1c.only howd (fun hm => by have := hEc _ hm; omega)
  have hOd := hOc.only howd (fun k hk hm => by have := hEc _ hm; have := hGO k hk; omega)
  have hDd := hDc.only howd (fun k hk hm => by have := hEc _ hm; have := hGD k hk; omega)
  conv => whnf
  refine ⟨_, Loads.one (by kernel_rfl) (b1d.pkData ok), ?_⟩
  conv => whnf
  rw [v2]
  refine (u16_does (v := 20 + (p.opts.length : Int) + (p.data.length : Int)) hWd (by simp) (by decide) (by omega) (by omega)).mono ?_
  rintro r we ⟨rfl, Fe, hWe, howe, hFe⟩
  have hEe : ∀ k ∈ Fe, w1.heap.size ≤ k := fun k hk => (hFe k hk).elim (fun h => hEd k h) (fun h => Nat.le_trans hwd.size h)
  have hwe : Only [] w1 we := hwd.trans howe (fun k hk => .inr (hEd k hk))
  have b1e := b1d.only howe (fun hm => by have := hEd _ hm; omega)
  have hOe := hOd.only howe (fun k hk hm => by have := hEd _ hm; have := hGO k hk; omega)
  have hDe := hDd.only howe (fun k hk hm => by have := hEd _ hm; have := hGD k hk; omega)
  conv => whnf
  refine ⟨_, Loads.one (by kernel_rfl) (b1e.pkId ok), ?_⟩
  conv => whnf
  rw [v3]
  refine (u16_does (v := p.id) hWe (by simp) (by decide) hi r4).mono ?_
  rintro r wf ⟨rfl, Ff, hWf, howf, hFf⟩
  have hEf : ∀ k ∈ Ff, w1.heap.size ≤ k := fun k hk => (hFf k hk).elim (fun h => hEe k h) (fun h => Nat.le_trans hwe.size h)
  have hwf : Only [] w1 wf := hwe.trans howf (fun k hk => .inr (hEe k hk))
  have b1f := b1e.only howf (fun hm => by have := hEe _ hm; omega)
  have hOf := hOe.only howf (fun k hk hm => by have := hEe _ hm; have := hGO k hk; omega)
  have hDf := hDe.only howf (fun k hk hm => by have := hEe _ hm; have := hGD k hk; omega)
  conv => whnf
  refine ⟨_, b1f.pkAll ok, ?_⟩
  conv => whnf
  refine (flags_does ok r5).mono ?_
  rintro r wf' ⟨rfl, hof⟩
  have hWf := hWf.o hof
  have b1f := b1f.only hof (by simp)
  have hOf := hOf.o hof
  have hDf := hDf.o hof
  have hwf := hwf.t0 hof
  conv => whnf
  refine (u16_does (v := flagsI p) hWf (by simp) (by decide) hfb.1 hfb.2).mono ?_
  rintro r wg ⟨rfl, Fg, hWg, howg, hFg⟩
  have hEg : ∀ k ∈ Fg, w1.heap.size ≤ k := fun k hk => (hFg k hk).elim (fun h => hEf k h) (fun h => Nat.le_trans hwf.size h)
  have hwg : Only [] w1 wg := hwf.trans howg (fun k hk => .inr (hEf k hk))
  have b1g := b1f.only howg (fun hm => by have := hEf _ hm; omega)
  have hOg := hOf.only howg (fun k hk hm => by have := hEf _ hm; have := hGO k hk; omega)
  have hDg := hDf.only howg (fun k hk hm => by have := hEf _ hm; have := hGD k hk; omega)
  conv => whnf
  refine ⟨_, Loads.one (by kernel_rfl) (b1g.pkTtl ok), ?_⟩
  conv => whnf
  rw [v5]
  refine (u8_does (v := p.ttl) hWg (by simp) (by decide) r3.1 r3.2).mono ?_
  rintro r wh ⟨rfl, Fh, hWh, howh, hFh⟩
  have hEh : ∀ k ∈ Fh, w1.heap.size ≤ k := fun k hk => (hFh k hk).elim (fun h => hEg k h) (fun h => Nat.le_trans hwg.size h)
  have hwh : Only [] w1 wh := hwg.trans howh (fun k hk => .inr (hEg k hk))
  have b1h := b1g.only howh (fun hm => by have := hEg _ hm; omega)
  have hOh := hOg.only howh (fun k hk hm => by have := hEg _ hm; have := hGO k hk; omega)
  have hDh := hDg.only howh (fun k hk hm => by have := hEg _ hm; have := hGD k hk; omega)
  conv => whnf
  refine ⟨_, Loads.one (by kernel_rfl) (b1h.pkProto ok), ?_⟩
  conv => whnf
  rw [v6]
  refine (u8_does (v := p.proto) hWh (by simp) (by decide) r2.1 r2.2).mono ?_
  rintro r wi ⟨rfl, Fi, hWi, howi, hFi⟩
  have hEi : ∀ k ∈ Fi, w1.heap.size ≤ k := fun k hk => (hFi k hk).elim (fun h => hEh k h) (fun h => Nat.le_trans hwh.size h)
  have hwi : Only [] w1 wi := hwh.trans howi (fun k hk => .inr (hEh k hk))
  have b1i := b1h.only howi (fun hm => by have := hEh _ hm; omega)
  have hOi := hOh.only howi (fun k hk hm => by have := hEh _ hm; have := hGO k hk; omega)
  have hDi := hDh.only howi (fun k hk hm => by have := hEh _ hm; have := hGD k hk; omega)
  conv => whnf
  refine (u16_does (v := 0) hWi (by simp) (by decide) (by decide) (by decide)).mono ?_
  rintro r wj ⟨rfl, Fj, hWj, howj, hFj⟩
  have hEj : ∀ k ∈ Fj, w1.heap.size ≤ k := fun k hk => (hFj k hk).elim (fun h => hEi k h) (fun h => Nat.le_trans hwi.size h)
  have hwj : Only [] w1 wj := hwi.trans howj (fun k hk => .inr (hEi k hk))
  have b1j := b1i.only howj (fun hm => by have := hEi _ hm; omega)
  have hOj := hOi.only howj (fun k hk hm => by have := hEi _ hm; have := hGO k hk; omega)
  have hDj := hDi.only howj (fun k hk hm => by have := hEi _ hm; have := hGD k hk; omega)
  conv => whnf
  refine ⟨0, 4, 16, rfl, rfl, rfl, by decide, by decide, by decide, ⟨w.heap.size, 4, none⟩, 4, 16, rfl, rfl, rfl, ?_⟩
  conv => whnf
  have hSj := b1j.pkSrcB ok
  refine (wbytes_does hWj hSj (by simp [s4]) (by decide)).mono ?_
  rintro r wk ⟨rfl, Fk, hWk, howk, hFk⟩
  have hEk : ∀ k ∈ Fk, w1.heap.size ≤ k := fun k hk => (hFk k hk).elim (fun h => hEj k h) (fun h => Nat.le_trans hwj.size h)
  have hwk : Only [] w1 wk := hwj.trans howk (fun k hk => .inr (hEj k hk))
  have b1k := b1j.only howk (fun hm => by have := hEj _ hm; omega)
  have hOk := hOj.only howk (fun k hk hm => by have := hEj _ hm; have := hGO k hk; omega)
  have hDk := hDj.only howk (fun k hk hm => by have := hEj _ hm; have := hGD k hk; omega)
  conv => whnf
  refine ⟨0, 4, 16, rfl, rfl, rfl, by decide, by decide, by decide, ⟨w.heap.size, 21, none⟩, 4, 16, rfl, rfl, rfl, ?_⟩
  conv => whnf
  have hTk := b1k.pkDstB ok
  refine (wbytes_does hWk hTk (by simp [s4, t4]) (by decide)).mono ?_
  rintro r wl ⟨rfl, Fl, hWl, howl, hFl⟩
  have hEl : ∀ k ∈ Fl, w1.heap.size ≤ k := fun k hk => (hFl k hk).elim (fun h => hEk k h) (fun h => Nat.le_trans hwk.size h)
  have hwl : Only [] w1 wl := hwk.trans howl (fun k hk => .inr (hEk k hk))
  have b1l := b1k.only howl (fun hm => by have := hEk _ hm; omega)
  have hOl := hOk.only howl (fun k hk hm => by have := hEk _ hm; have := hGO k hk; omega)
  have hDl := hDk.only howl (fun k hk hm => by have := hEk _ hm; have := hGD k hk; omega)
  conv => whnf
  refine ⟨_, Loads.one (by kernel_rfl) (b1l.pkOpts ok), ?_⟩
  conv => whnf
  refine (wbytes_does hWl hOl (by simp [s4, t4]; omega) (by decide)).mono ?_
  rintro r wm ⟨rfl, Fm, hWm, howm, hFm⟩
  have hEm : ∀ k ∈ Fm, w1.heap.size ≤ k := fun k hk => (hFm k hk).elim (fun h => hEl k h) (fun h => Nat.le_trans hwl.size h)
  have hwm : Only [] w1 wm := hwl.trans howm (fun k hk => .inr (hEl k hk))
  have b1m := b1l.only howm (fun hm => by have := hEl _ hm; omega)
  have hOm := hOl.only howm (fun k hk hm => by have := hEl _ hm; have := hGO k hk; omega)
  have hDm := hDl.only howm (fun k hk hm => by have := hEl _ hm; have := hGD k hk; omega)
  have hWm : Wr wm q Fm (head0 p (20 + (p.opts.length : Int))) 65575 := hWm
  conv => whnf
  refine (wout_does hWm (by omega)).mono ?_
  rintro r wn ⟨A, c, FX, rfl, hrow, hon, hFX⟩
  conv => whnf
  refine (of_does (Row.bs hrow) hrow.le.1 (by omega)).mono ?_
  rintro r wo ⟨rfl, hoo⟩
  have hof := ofL_bd (head0 p (20 + (p.opts.length : Int)))
  have hmo : Only [] wm wo := hon.t0 hoo
  conv => whnf
  refine (put16_does (k := 10) (hWm.o hmo) (by omega) (by omega) hof.1 hof.2).mono ?_
  rintro r wp ⟨rfl, hWp, hop⟩
  have hwo : Only [] w1 wo := hwm.t0 hmo
  have hwp : Only [] w1 wp := hwo.trans hop (fun k hk => .inr (hEm k hk))
  have b1p := (b1m.only hmo (by simp)).only hop (fun hm => by have := hEm _ hm; omega)
  have hDp := (hDm.o hmo).only hop (fun k hk hm => by have := hEm _ hm; have := hGD k hk; omega)
  have hls : (setW (head0 p (20 + (p.opts.length : Int))) 10 (ofL (head0 p (20 + (p.opts.length : Int))))).length = 20 + p.opts.length := by rw [setW_len]; exact hl0
  conv => whnf
  refine ⟨_, Loads.one (by kernel_rfl) (b1p.pkData ok), ?_⟩
  conv => whnf
  refine (wbytes_does hWp hDp (by rw [hls]; omega) (by decide)).mono ?_
  rintro r wq ⟨rfl, Fq, hWq, hoq, hFq⟩
  have hWq : Wr wq q Fq (packL p) 65575 := hWq
  have hlp : (packL p).length = 20 + p.opts.length + p.data.length := by unfold packL; rw [List.length_append, hls]
  have hwq : Only [] w1 wq := hwp.trans hoq (fun k hk => .inr (hEm k hk))
  conv => whnf
  refine (wout_does hWq (by omega)).mono ?_
  rintro r wr ⟨A2, c2, FX2, rfl, hrow2, hor, hFX2⟩
  conv => whnf
  have hfin := hw1.t0 hwq
  exact ⟨A2, c2, FX2, rfl, hrow2, hfin.t0 hor, fun k hk => by have := hFX2 k hk; have := hfin.size; omega⟩
end Go.Proofs.YtofomopdaponbaaGreatDoor
