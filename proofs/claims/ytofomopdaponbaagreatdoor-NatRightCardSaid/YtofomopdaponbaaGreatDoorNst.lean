/-
  A Nat as cells; between, inside, outside.
-/
import Derived.Test.YtofomopdaponbaaGreatDoorNid
import Derived.Test.YtofomopdaponbaaGreatDoorNty
namespace Go.Proofs.YtofomopdaponbaaGreatDoor
open Go.RowKit
set_option linter.unusedVariables false
set_option linter.unusedSimpArgs false

def betweenI (n a b : Int) : Bool := decide (n ≥ a) && decide (n ≤ b)
set_option maxRecDepth 100000 in
theorem between_does {w : World} {n a b : Int} : Does Tryz.prog 105 [.int .i64 n, .int .i64 a, .int .i64 b] w (fun v w' => v = .bool (betweenI n a b) ∧ w = w') := by
  refine Does.enter (fn := Tryz.f105) (by kernel_rfl) rfl (by kernel_rfl) (by kernel_rfl) ?_
  conv => whnf
  refine VIf.dec (fun h => ?_) (fun h => ?_)
  · conv => whnf
    exact ⟨by simp [betweenI, h], rfl⟩
  · conv => whnf
    exact ⟨by simp [betweenI, h], rfl⟩
structure Cf where
  net : Ad
  bits : Int
  outside : Ad
  first : Int
  last : Int
  life : Int
  maps : Int
  parts : Int
  hold : Int
structure okCf (c : Cf) : Prop where
  net : okAd c.net
  outside : okAd c.outside
def cfT (c : Cf) : List Value := [.int .i64 c.first, .int .i64 c.last, .int .i64 c.life, .int .i64 c.maps, .int .i64 c.parts, .int .i64 c.hold]
def natC (c : Cf) (now : Int) (M O I : Value) : List Value := adC c.net ++ (.int .i64 c.bits :: (adC c.outside ++ (cfT c ++ [.int .i64 now, M, O, I])))
theorem nat_tail {c : Cf} {now : Int} {M O I : Value} (h : okCf c) (j : Nat) : (natC c now M O I)[35 + j]? = (cfT c ++ [.int .i64 now, M, O, I])[j]? := by
  have e1 := adC_len h.net
  have e2 := adC_len h.outside
  unfold natC
  rw [List.getElem?_append_right (by omega), e1, show 35 + j - 17 = (17 + j) + 1 by omega, List.getElem?_cons_succ, List.getElem?_append_right (by omega), e2]
  congr 1
  omega
theorem nat_len {c : Cf} {now : Int} {M O I : Value} (h : okCf c) : (natC c now M O I).length = 45 := by simp [natC, cfT, adC_len h.net, adC_len h.outside]
section
variable {w : World} {T : Nat} {t : TypeId} {c : Cf} {now : Int} {M O I : Value}
theorem Blk.ntNet (h : Blk w T t ⟨natC c now M O I⟩) (ok : okCf c) : Loads Tryz.prog 24 ⟨T, 0, none⟩ w (.agg ⟨adC c.net⟩) := Loads.seg (ps := []) h rfl (by kernel_rfl) (by rw [adC_len ok.net]; kernel_rfl)
theorem Blk.ntBits (h : Blk w T t ⟨natC c now M O I⟩) (ok : okCf c) : w.cell? ⟨T, 17, none⟩ = some (.int .i64 c.bits) := h.at (by
  unfold natC
  rw [List.getElem?_append_right (by rw [adC_len ok.net]; exact Nat.le_refl _), adC_len ok.net]
  rfl)
theorem Blk.ntOutside (h : Blk w T t ⟨natC c now M O I⟩) (ok : okCf c) : Loads Tryz.prog 24 ⟨T, 18, none⟩ w (.agg ⟨adC c.outside⟩) := by
  have h2 : Blk w T t ⟨(adC c.net ++ [.int .i64 c.bits]) ++ (adC c.outside ++ (cfT c ++ [.int .i64 now, M, O, I]))⟩ := by
    rw [List.append_assoc]
    exact h
  exact Loads.seg h2 (by simp [adC_len ok.net]) (by kernel_rfl) (by rw [adC_len ok.outside]; kernel_rfl)
theorem Blk.ntFirst (h : Blk w T t ⟨natC c now M O I⟩) (ok : okCf c) : w.cell? ⟨T, 35, none⟩ = some (.int .i64 c.first) := h.at ((nat_tail ok 0).trans rfl)
theorem Blk.ntLast (h : Blk w T t ⟨natC c now M O I⟩) (ok : okCf c) : w.cell? ⟨T, 36, none⟩ = some (.int .i64 c.last) := h.at ((nat_tail ok 1).trans rfl)
theorem Blk.ntLife (h : Blk w T t ⟨natC c now M O I⟩) (ok : okCf c) : w.cell? ⟨T, 37, none⟩ = some (.int .i64 c.life) := h.at ((nat_tail ok 2).trans rfl)
theorem Blk.ntMaps (h : Blk w T t ⟨natC c now M O I⟩) (ok : okCf c) : w.cell? ⟨T, 38, none⟩ = some (.int .i64 c.maps) := h.at ((nat_tail ok 3).trans rfl)
theorem Blk.ntParts (h : Blk w T t ⟨natC c now M O I⟩) (ok : okCf c) : w.cell? ⟨T, 39, none⟩ = some (.int .i64 c.parts) := h.at ((nat_tail ok 4).trans rfl)
theorem Blk.ntHold (h : Blk w T t ⟨natC c now M O I⟩) (ok : okCf c) : w.cell? ⟨T, 40, none⟩ = some (.int .i64 c.hold) := h.at ((nat_tail ok 5).trans rfl)
theorem Blk.ntNow (h : Blk w T t ⟨natC c now M O I⟩) (ok : okCf c) : w.cell? ⟨T, 41, none⟩ = some (.int .i64 now) := h.at ((nat_tail ok 6).trans rfl)
theorem Blk.ntM (h : Blk w T t ⟨natC c now M O I⟩) (ok : okCf c) : w.cell? ⟨T, 42, none⟩ = some M := h.at ((nat_tail ok 7).trans rfl)
theorem Blk.ntO (h : Blk w T t ⟨natC c now M O I⟩) (ok : okCf c) : w.cell? ⟨T, 43, none⟩ = some O := h.at ((nat_tail ok 8).trans rfl)
theorem Blk.ntI (h : Blk w T t ⟨natC c now M O I⟩) (ok : okCf c) : w.cell? ⟨T, 44, none⟩ = some I := h.at ((nat_tail ok 9).trans rfl)
end
def insideA (c : Cf) (a : Ad) : Bool := decide (kindA a = 5) && withinA a c.net c.bits
set_option maxRecDepth 100000 in
theorem inside_does {w : World} {T : Nat} {c : Cf} {now : Int} {M O I : Value} {a : Ad} (h : Blk w T 103 ⟨natC c now M O I⟩) (ok : okCf c) (ha : okAd a) :
    Does Tryz.prog 62 [.pointer (some ⟨T, 0, none⟩), .agg ⟨adC a⟩] w (fun v w' => v = .bool (insideA c a) ∧ Only [] w w') := by
  have hA := Only.alloc (Only.refl [] w) (.cells ⟨adC a⟩ 24)
  have hb := Blk.new w 24 ⟨adC a⟩
  have h1 := h.only hA (by simp)
  refine Does.enter (fn := Tryz.f62) (by kernel_rfl) rfl (by kernel_rfl) (by kernel_rfl) ?_
  conv => whnf
  refine VDraw.abs fun N0 hN => ?_
  refine VDraw.q (by kernel_rfl) (by kernel_rfl) ?_
  conv => whnf
  refine ⟨_, fun w' hw' => Loads.all (hb.only hw' (by simp)) (by kernel_rfl) (by rw [adC_len ha]; kernel_rfl), ?_⟩
  conv => whnf
  refine ⟨_, fun w' hw' => (kind_does ha).q hw', ?_⟩
  conv => whnf
  refine VIf.eq (fun e => ?_) (fun e => ?_)
  · conv => whnf
    refine ⟨_, fun w' hw' => Loads.all (hb.only hw' (by simp)) (by kernel_rfl) (by rw [adC_len ha]; kernel_rfl), ?_⟩
    conv => whnf
    refine ⟨_, fun w' hw' => (h1.only hw' (by simp)).ntNet ok, ?_⟩
    conv => whnf
    refine ⟨_, fun w' hw' => Loads.one (by kernel_rfl) ((h1.only hw' (by simp)).ntBits ok), ?_⟩
    conv => whnf
    refine ⟨_, fun w' hw' => (within_does ha ok.net).q hw', ?_⟩
    conv => whnf
    intro w2 ho2
    conv => whnf
    refine hN _ _ ?_
    conv => whnf
    exact ⟨by simp [insideA, e], hA.t0 ho2⟩
  · conv => whnf
    intro w2 ho2
    conv => whnf
    refine hN _ _ ?_
    conv => whnf
    exact ⟨by simp [insideA, e], hA.t0 ho2⟩
def outsideA (c : Cf) (a : Ad) : Bool := decide (a.1 = 4) && decide (kindA a = 5) && !withinA a c.net c.bits && !decide (a = c.outside)
set_option maxRecDepth 100000 in
theorem outside_does {w : World} {T : Nat} {c : Cf} {now : Int} {M O I : Value} {a : Ad} (h : Blk w T 103 ⟨natC c now M O I⟩) (ok : okCf c) (ha : okAd a) :
    Does Tryz.prog 49 [.pointer (some ⟨T, 0, none⟩), .agg ⟨adC a⟩] w (fun v w' => v = .bool (outsideA c a) ∧ Only [] w w') := by
  have hA := Only.alloc (Only.refl [] w) (.cells ⟨adC a⟩ 24)
  have hb := Blk.new w 24 ⟨adC a⟩
  have h1 := h.only hA (by simp)
  refine Does.enter (fn := Tryz.f49) (by kernel_rfl) rfl (by kernel_rfl) (by kernel_rfl) ?_
  conv => whnf
  refine VDraw.abs fun N0 hN => ?_
  refine VDraw.q (by kernel_rfl) (by kernel_rfl) ?_
  conv => whnf
  refine ⟨_, fun w' hw' => Loads.one (by kernel_rfl) ((hb.only hw' (by simp)).at (i := 0) rfl), ?_⟩
  conv => whnf
  refine VIf.eq (fun e1 => ?_) (fun e1 => ?_)
  rotate_left
  · conv => whnf
    intro w2 ho2
    conv => whnf
    refine hN _ _ ?_
    conv => whnf
    exact ⟨by simp [outsideA, e1], hA.t0 ho2⟩
  conv => whnf
  refine ⟨_, fun w' hw' => Loads.all (hb.only hw' (by simp)) (by kernel_rfl) (by rw [adC_len ha]; kernel_rfl), ?_⟩
  conv => whnf
  refine ⟨_, fun w' hw' => (kind_does ha).q hw', ?_⟩
  conv => whnf
  refine VIf.eq (fun e2 => ?_) (fun e2 => ?_)
  rotate_left
  · conv => whnf
    intro w2 ho2
    conv => whnf
    refine hN _ _ ?_
    conv => whnf
    exact ⟨by simp [outsideA, e2], hA.t0 ho2⟩
  conv => whnf
  refine ⟨_, fun w' hw' => Loads.all (hb.only hw' (by simp)) (by kernel_rfl) (by rw [adC_len ha]; kernel_rfl), ?_⟩
  conv => whnf
  refine ⟨_, fun w' hw' => (h1.only hw' (by simp)).ntNet ok, ?_⟩
  conv => whnf
  refine ⟨_, fun w' hw' => Loads.one (by kernel_rfl) ((h1.only hw' (by simp)).ntBits ok), ?_⟩
  conv => whnf
  refine ⟨_, fun w' hw' => (within_does ha ok.net).q hw', ?_⟩
  conv => whnf
  refine VIf.not (VIf.of (b := withinA a c.net c.bits) (fun e3 => ?_) (fun e3 => ?_))
  · conv => whnf
    intro w2 ho2
    conv => whnf
    refine hN _ _ ?_
    conv => whnf
    exact ⟨by simp [outsideA, e3], hA.t0 ho2⟩
  conv => whnf
  refine ⟨_, fun w' hw' => Loads.all (hb.only hw' (by simp)) (by kernel_rfl) (by rw [adC_len ha]; kernel_rfl), ?_⟩
  conv => whnf
  refine ⟨_, fun w' hw' => (h1.only hw' (by simp)).ntOutside ok, ?_⟩
  conv => whnf
  refine ⟨_, eql_ad ha ok.outside _ _, ?_⟩
  conv => whnf
  intro w2 ho2
  conv => whnf
  refine hN _ _ ?_
  conv => whnf
  exact ⟨by simp [outsideA, e1, e2, e3], hA.t0 ho2⟩
theorem nm_tail (m : Nm) (j : Nat) : (nmC m)[17 + j]? = [Value.int .i64 m.port, .int .i64 m.out, .int .i64 m.used][j]? := by
  unfold nmC
  rw [List.getElem?_append_right (by rw [adP_len]; omega), adP_len]
  congr 1
  omega
set_option maxRecDepth 100000 in
theorem portIs_does {w : World} {q : Nat} {t : TypeId} {port : Int} {m : Nm} (hb : Blk w q t ⟨[.int .i64 port]⟩) :
    Does Tryz.prog 133 [.agg ⟨nmC m⟩, .pointer (some ⟨q, 0, none⟩)] w (fun v w' => v = .bool (m.out == port) ∧ Only [] w w') := by
  have hA := Only.alloc (Only.refl [] w) (.cells ⟨nmC m⟩ 48)
  have hm := Blk.new w 48 ⟨nmC m⟩
  refine Does.enter (fn := Tryz.f133) (by kernel_rfl) rfl (by kernel_rfl) (by kernel_rfl) ?_
  conv => whnf
  refine ⟨_, Loads.one (by kernel_rfl) (hm.at ((nm_tail m 1).trans rfl)), ?_⟩
  conv => whnf
  refine ⟨_, Loads.one (by kernel_rfl) ((hb.only hA (by simp)).at (i := 0) rfl), ?_⟩
  conv => whnf
  exact ⟨rfl, hA⟩
set_option maxRecDepth 100000 in
theorem ofPort_does {w : World} {T n c : Nat} {G : List Nat} {cf : Cf} {now port : Int} {A : Option Addr} {O I : Value} {z : List Nm} (h : Blk w T 103 ⟨natC cf now (.slice A n c) O I⟩) (ok : okCf cf) (hz : Sl w 20 G A n (z.flatMap nmC)) (hn : n ≤ 9223372036854775807) :
    Does Tryz.prog 54 [.pointer (some ⟨T, 0, none⟩), .int .i64 port] w (fun v w' => v = .int .i64 (idxI (fun m => m.out == port) z) ∧ Only [] w w') := by
  have hA := Only.alloc (Only.refl [] w) (.cells ⟨[.int .i64 port]⟩ 3)
  have hb := Blk.new w 3 ⟨[.int .i64 port]⟩
  refine Does.enter (fn := Tryz.f54) (by kernel_rfl) rfl (by kernel_rfl) (by kernel_rfl) ?_
  conv => whnf
  refine ⟨_, Loads.one (by kernel_rfl) ((h.only hA (by simp)).ntM ok), ?_⟩
  conv => whnf
  refine (indexNm_does (p := fun m => m.out == port) (hz.o hA) hn (fun x _ w' ho => portIs_does (hb.only ho (by simp)))).mono ?_
  rintro v w1 ⟨rfl, ho⟩
  conv => whnf
  exact ⟨rfl, hA.t0 ho⟩
def endIs (a : Ad) (port : Int) (m : Nm) : Bool := decide (m.addr = a) && (m.port == port)
set_option maxRecDepth 100000 in
theorem endIs_does {w : World} {qa qp : Nat} {ta tp : TypeId} {a : Ad} {port : Int} {m : Nm} (ha : Blk w qa ta ⟨adC a⟩) (hp : Blk w qp tp ⟨[.int .i64 port]⟩) (oka : okAd a) (okm : okAd m.addr) :
    Does Tryz.prog 140 [.agg ⟨nmC m⟩, .pointer (some ⟨qa, 0, none⟩), .pointer (some ⟨qp, 0, none⟩)] w (fun v w' => v = .bool (endIs a port m) ∧ Only [] w w') := by
  have hA := Only.alloc (Only.refl [] w) (.cells ⟨nmC m⟩ 48)
  have hm := Blk.new w 48 ⟨nmC m⟩
  have hm2 : Blk (w.alloc (.cells ⟨nmC m⟩ 48)) w.heap.size 48 ⟨[] ++ (adC m.addr ++ [.int .i64 m.port, .int .i64 m.out, .int .i64 m.used])⟩ := by
    rw [← adP_id okm]
    exact hm
  refine Does.enter (fn := Tryz.f140) (by kernel_rfl) rfl (by kernel_rfl) (by kernel_rfl) ?_
  conv => whnf
  refine ⟨_, Loads.seg hm2 rfl (by kernel_rfl) (by rw [adC_len okm]; kernel_rfl), ?_⟩
  conv => whnf
  refine ⟨_, Loads.all (ha.only hA (by simp)) (by kernel_rfl) (by rw [adC_len oka]; kernel_rfl), ?_⟩
  conv => whnf
  refine ⟨_, eql_ad okm oka _ _, ?_⟩
  conv => whnf
  refine VIf.dec (fun e => ?_) (fun e => ?_)
  · conv => whnf
    refine ⟨_, Loads.one (by kernel_rfl) (hm.at ((nm_tail m 0).trans rfl)), ?_⟩
    conv => whnf
    refine ⟨_, Loads.one (by kernel_rfl) ((hp.only hA (by simp)).at (i := 0) rfl), ?_⟩
    conv => whnf
    exact ⟨by simp [endIs, e], hA⟩
  · conv => whnf
    exact ⟨by simp [endIs, e], hA⟩
set_option maxRecDepth 100000 in
theorem ofEnd_does {w : World} {T n c : Nat} {G : List Nat} {cf : Cf} {now port : Int} {a : Ad} {A : Option Addr} {O I : Value} {z : List Nm} (h : Blk w T 103 ⟨natC cf now (.slice A n c) O I⟩) (ok : okCf cf) (oka : okAd a) (hz : Sl w 20 G A n (z.flatMap nmC)) (okz : ∀ m ∈ z, okAd m.addr) (hn : n ≤ 9223372036854775807) :
    Does Tryz.prog 64 [.pointer (some ⟨T, 0, none⟩), .agg ⟨adC a⟩, .int .i64 port] w (fun v w' => v = .int .i64 (idxI (endIs a port) z) ∧ Only [] w w') := by
  have hA1 := Only.alloc (Only.refl [] w) (.cells ⟨adC a⟩ 24)
  have hb1 := Blk.new w 24 ⟨adC a⟩
  have hA := hA1.alloc (.cells ⟨[.int .i64 port]⟩ 3)
  have hb2 := Blk.new (w.alloc (.cells ⟨adC a⟩ 24)) 3 ⟨[.int .i64 port]⟩
  have hb1 := hb1.alloc (.cells ⟨[.int .i64 port]⟩ 3)
  refine Does.enter (fn := Tryz.f64) (by kernel_rfl) rfl (by kernel_rfl) (by kernel_rfl) ?_
  conv => whnf
  refine ⟨_, Loads.one (by kernel_rfl) ((h.only hA (by simp)).ntM ok), ?_⟩
  conv => whnf
  refine (indexNm_does (p := endIs a port) (hz.o hA) hn (fun x hx w' ho => endIs_does (hb1.only ho (by simp)) (hb2.only ho (by simp)) oka (okz x hx))).mono ?_
  rintro v w1 ⟨rfl, ho⟩
  conv => whnf
  exact ⟨rfl, hA.t0 ho⟩
end Go.Proofs.YtofomopdaponbaaGreatDoor
