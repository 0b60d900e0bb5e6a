/-
  A Nat as cells; between, inside, outside.
-/
import Derived.Test.YtofomopdaponbaaGreatDoorYNid
import Derived.Test.YtofomopdaponbaaGreatDoorYNty
namespace Go.Proofs.YtofomopdaponbaaGreatDoor
open Go.RowKit
set_option linter.unusedVariables false
set_option linter.unusedSimpArgs false

def betweenI (n a b : Int) : Bool := decide (n ≥ a) && decide (n ≤ b)
set_option maxRecDepth 100000 in
theorem between_does {w : World} {n a b : Int} : Does Tryz.prog 105 [.int .i64 n, .int .i64 a, .int .i64 b] w (fun v w' => v = .bool (betweenI n a b) ∧ w = w') := by
  refine Does.enter (fn := Tryz.f105) (by kernel_rfl) rfl (by kernel_rfl) (by kernel_rfl) ?_
  conv => whnf
  refine VIf.dec (fun h => ?_) (fun h => ?_)
  · conv => whnf
    exact ⟨by simp [betweenI, h], rfl⟩
  · conv => whnf
    exact ⟨by simp [betweenI, h], rfl⟩
structure Cf where
  net : Ad
  bits : Int
  outside : Ad
  first : Int
  last : Int
  life : Int
  maps : Int
  parts : Int
  hold : Int
structure okCf (c : Cf) : Prop where
  net : okAd c.net
  outside : okAd c.outside
def cfT (c : Cf) : List Value := [.int .i64 c.first, .int .i64 c.last, .int .i64 c.life, .int .i64 c.maps, .int .i64 c.parts, .int .i64 c.hold]
def natC (c : Cf) (now : Int) (M O I : Value) : List Value := adC c.net ++ (.int .i64 c.bits :: (adC c.outside ++ (cfT c ++ [.int .i64 now, M, O, I])))
theorem nat_tail {c : Cf} {now : Int} {M O I : Value} (h : okCf c) (j : Nat) : (natC c now M O I)[35 + j]? = (cfT c ++ [.int .i64 now, M, O, I])[j]? := by
  have e1 := adC_len h.net
  have e2 := adC_len h.outside
  unfold natC
  rw [List.getElem?_append_right (by omega), e1, show 35 + j - 17 = (17 + j) + 1 by omega, List.getElem?_cons_succ, List.getElem?_append_right (by omega), e2]
  congr 1
  omega
theorem nat_len {c : Cf} {now : Int} {M O I : Value} (h : okCf c) : (natC c now M O I).length = 45 := by simp [natC, cfT, adC_len h.net, adC_len h.outside]
section
variable {w : World} {T : Nat} {t : TypeId} {c : Cf} {now : Int} {M O I : Value}
theorem Blk.ntNet (h : Blk w T t ⟨natC c now M O I⟩) (ok : okCf c) : Loads Tryz.prog 24 ⟨T, 0, none⟩ w (.agg ⟨adC c.net⟩) := Loads.seg (ps := []) h rfl (by kernel_rfl) (by rw [adC_len ok.net]; kernel_rfl)
theorem Blk.ntBits (h : Blk w T t ⟨natC c now M O I⟩) (ok : okCf c) : w.cell? ⟨T, 17, none⟩ = some (.int .i64 c.bits) := h.at (by
  unfold natC
  rw [List.getElem?_append_right (by rw [adC_len ok.net]; exact Nat.le_refl _), adC_len ok.net]
  rfl)
theorem Blk.ntOutside (h : Blk w T t ⟨natC c now M O I⟩) (ok : okCf c) : Loads Tryz.prog 24 ⟨T, 18, none⟩ w (.agg ⟨adC c.outside⟩) := by
  have h2 : Blk w T t ⟨(adC c.net ++ [.int .i64 c.bits]) ++ (adC c.outside ++ (cfT c ++ [.int .i64 now, M, O, I]))⟩ := by
    rw [List.append_assoc]
    exact h
  exact Loads.seg h2 (by simp [adC_len ok.net]) (by kernel_rfl) (by rw [adC_len ok.outside]; kernel_rfl)
theorem Blk.ntFirst (h : Blk w T t ⟨natC c now M O I⟩) (ok : okCf c) : w.cell? ⟨T, 35, none⟩ = some (.int .i64 c.first) := h.at ((nat_tail ok 0).trans rfl)
theorem Blk.ntLast (h : Blk w T t ⟨natC c now M O I⟩) (ok : okCf c) : w.cell? ⟨T, 36, none⟩ = some (.int .i64 c.last) := h.at ((nat_tail ok 1).trans rfl)
theorem Blk.ntLife (h : Blk w T t ⟨natC c now M O I⟩) (ok : okCf c) : w.cell? ⟨T, 37, none⟩ = some (.int .i64 c.life) := h.at ((nat_tail ok 2).trans rfl)
theorem Blk.ntMaps (h : Blk w T t ⟨natC c now M O I⟩) (ok : okCf c) : w.cell? ⟨T, 38, none⟩ = some (.int .i64 c.maps) := h.at ((nat_tail ok 3).trans rfl)
theorem Blk.ntParts (h : Blk w T t ⟨natC c now M O I⟩) (ok : okCf c) : w.cell? ⟨T, 39, none⟩ = some (.int .i64 c.parts) := h.at ((nat_tail ok 4).trans rfl)
theorem Blk.ntHold (h : Blk w T t ⟨natC c now M O I⟩) (ok : okCf c) : w.cell? ⟨T, 40, none⟩ = some (.int .i64 c.hold) := h.at ((nat_tail ok 5).trans rfl)
theorem Blk.ntNow (h : Blk w T t ⟨natC c now M O I⟩) (ok : okCf c) : w.cell? ⟨T, 41, none⟩ = some (.int .i64 now) := h.at ((nat_tail ok 6).trans rfl)
theorem Blk.ntM (h : Blk w T t ⟨natC c now M O I⟩) (ok : okCf c) : w.cell? ⟨T, 42, none⟩ = some M := h.at ((nat_tail ok 7).trans rfl)
theorem Blk.ntO (h : Blk w T t ⟨natC c now M O I⟩) (ok : okCf c) : w.cell? ⟨T, 43, none⟩ = some O := h.at ((nat_tail ok 8).trans rfl)
theorem Blk.ntI (h : Blk w T t ⟨natC c now M O I⟩) (ok : okCf c) : w.cell? ⟨T, 44, none⟩ = some I := h.at ((nat_tail ok 9).trans rfl)
end
def insideA (c : Cf) (a : Ad) : Bool := decide (kindA a = 5) && withinA a c.net c.bits
set_option maxRecDepth 100000 in
theorem inside_does {w : World} {T : Nat} {c : Cf} {now : Int} {M O I : Value} {a : Ad} (h : Blk w T 103 ⟨natC c now M O I⟩) (ok : okCf c) (ha : okAd a) :
    Does Tryz.prog 62 [.pointer (some ⟨T, 0, none⟩), .agg ⟨adC a⟩] w (fun v w' => v = .bool (insideA c a) ∧ Only [] w w') := by
  have hA := Only.alloc (Only.refl [] w) (.cells ⟨adC a⟩ 24)
  have hb := Blk.new w 24 ⟨adC a⟩
  have h1 := h.only hA (by simp)
  refine Does.enter (fn := Tryz.f62) (by kernel_rfl) rfl (by kernel_rfl) (by kernel_rfl) ?_
  conv => whnf
  refine VDraw.abs fun N0 hN => ?_
  refine VDraw.q (by kernel_rfl) (by kernel_rfl) ?_
  conv => whnf
  refine ⟨_, fun w' hw' => Loads.all (hb.only hw' (by simp)) (by kernel_rfl) (by rw [adC_len ha]; kernel_rfl), ?_⟩
  conv => whnf
  refine ⟨_, fun w' hw' => (kind_does ha).q hw', ?_⟩
  conv => whnf
  refine VIf.eq (fun e => ?_) (fun e => ?_)
  · conv => whnf
    refine ⟨_, fun w' hw' => Loads.all (hb.only hw' (by simp)) (by kernel_rfl) (by rw [adC_len ha]; kernel_rfl), ?_⟩
    conv => whnf
    refine ⟨_, fun w' hw' => (h1.only hw' (by simp)).ntNet ok, ?_⟩
    conv => whnf
    refine ⟨_, fun w' hw' => Loads.one (by kernel_rfl) ((h1.only hw' (by simp)).ntBits ok), ?_⟩
    conv => whnf
    refine ⟨_, fun w' hw' => (within_does ha ok.net).q hw', ?_⟩
    conv => whnf
    intro w2 ho2
    conv => whnf
    refine hN _ _ ?_
    conv => whnf
    exact ⟨by simp [insideA, e], hA.t0 ho2⟩
  · conv => whnf
    intro w2 ho2
    conv => whnf
    refine hN _ _ ?_
    conv => whnf
    exact ⟨by simp [insideA, e], hA.t0 ho2⟩
def outsideA (c : Cf) (a : Ad) : Bool := decide (a.1 = 4) && decide (kindA a = 5) && !withinA a c.net c.bits && !decide (a = c.outside)
set_option maxRecDepth 100000 in
theorem outside_does {w : World} {T : Nat} {c : Cf} {now : Int} {M O I : Value} {a : Ad} (h : Blk w T 103 ⟨natC c now M O I⟩) (ok : okCf c) (ha : okAd a) :
    Does Tryz.prog 49 [.pointer (some ⟨T, 0, none⟩), .agg ⟨adC a⟩] w (fun v w' => v = .bool (outsideA c a) ∧ Only [] w w') := by
  have hA := Only.alloc (Only.refl [] w) (.cells ⟨adC a⟩ 24)
  have hb := Blk.new w 24 ⟨adC a⟩
  have h1 := h.only hA (by simp)
  refine Does.enter (fn := Tryz.f49) (by kernel_rfl) rfl (by kernel_rfl) (by kernel_rfl) ?_
  conv => whnf
  refine VDraw.abs fun N0 hN => ?_
  refine VDraw.q (by kernel_rfl) (by kernel_rfl) ?_
  conv => whnf
  refine ⟨_, fun w' hw' => Loads.one (by kernel_rfl) ((hb.only hw' (by simp)).at (i := 0) rfl), ?_⟩
  conv => whnf
  refine VIf.eq (fun e1 => ?_) (fun e1 => ?_)
  rotate_left
  · conv => whnf
    intro w2 ho2
    conv => whnf
    refine hN _ _ ?_
    conv => whnf
    exact ⟨by simp [outsideA, e1], hA.t0 ho2⟩
  conv => whnf
  refine ⟨_, fun w' hw' => Loads.all (hb.only hw' (by simp)) (by kernel_rfl) (by rw [adC_len ha]; kernel_rfl), ?_⟩
  conv => whnf
  refine ⟨_, fun w' hw' => (kind_does ha).q hw', ?_⟩
  conv => whnf
  refine VIf.eq (fun e2 => ?_) (fun e2 => ?_)
  rotate_left
  · conv => whnf
    intro w2 ho2
    conv => whnf
    refine hN _ _ ?_
    conv => whnf
    exact ⟨by simp [outsideA, e2], hA.t0 ho2⟩
  conv => whnf
  refine ⟨_, fun w' hw' => Loads.all (hb.only hw' (by simp)) (by kernel_rfl) (by rw [adC_len ha]; kernel_rfl), ?_⟩
  conv => whnf
  refine ⟨_, fun w' hw' => (h1.only hw' (by simp)).ntNet ok, ?_⟩
  conv => whnf
  refine ⟨_, fun w' hw' => Loads.one (by kernel_rfl) ((h1.only hw' (by simp)).ntBits ok), ?_⟩
  conv => whnf
  refine ⟨_, fun w' hw' => (within_does ha ok.net).q hw', ?_⟩
  conv => whnf
  refine VIf.not (VIf.of (b := withinA a c.net c.bits) (fun e3 => ?_) (fun e3 => ?_))
  · conv => whnf
    intro w2 ho2
    conv => whnf
    refine hN _ _ ?_
    conv => whnf
    exact ⟨by simp [outsideA, e3], hA.t0 ho2⟩
  conv => whnf
  refine ⟨_, fun w' hw' => Loads.all (hb.only hw' (by simp)) (by kernel_rfl) (by rw [adC_len ha]; kernel_rfl), ?_⟩
  conv => whnf
  refine ⟨_, fun w' hw' => (h1.only hw' (by simp)).ntOutside ok, ?_⟩
  conv => whnf
  refine ⟨_, eql_ad ha ok.outside _ _, ?_⟩
  conv => whnf
  intro w2 ho2
  conv => whnf
  refine hN _ _ ?_
  conv => whnf
  exact ⟨by simp [outsideA, e1, e2, e3], hA.t0 ho2⟩
theorem nm_tail (m : Nm) (j : Nat) : (nmC m)[17 + j]? = [Value.int .i64 m.port, .int .i64 m.out, .int .i64 m.used][j]? := by
  unfold nmC
  rw [List.getElem?_append_right (by rw [adP_len]; omega), adP_len]
  congr 1
  omega
set_option maxRecDepth 100000 in
theorem portIs_does {w : World} {q : Nat} {t : TypeId} {port : Int} {m : Nm} (hb : Blk w q t ⟨[.int .i64 port]⟩) :
    Does Tryz.prog 133 [.agg ⟨nmC m⟩, .pointer (some ⟨q, 0, none⟩)] w (fun v w' => v = .bool (m.out == port) ∧ Only [] w w') := by
  have hA := Only.alloc (Only.refl [] w) (.cells ⟨nmC m⟩ 48)
  have hm := Blk.new w 48 ⟨nmC m⟩
  refine Does.enter (fn := Tryz.f133) (by kernel_rfl) rfl (by kernel_rfl) (by kernel_rfl) ?_
  conv => whnf
  refine ⟨_, Loads.one (by kernel_rfl) (hm.at ((nm_tail m 1).trans rfl)), ?_⟩
  conv => whnf
  refine ⟨_, Loads.one (by kernel_rfl) ((hb.only hA (by simp)).at (i := 0) rfl), ?_⟩
  conv => whnf
  exact ⟨rfl, hA⟩
set_option maxRecDepth 100000 in
theorem ofPort_does {w : World} {T n c : Nat} {G : List Nat} {cf : Cf} {now port : Int} {A : Option Addr} {O I : Value} {z : List Nm} (h : Blk w T 103 ⟨natC cf now (.slice A n c) O I⟩) (ok : okCf cf) (hz : Sl w 20 G A n (z.flatMap nmC)) (hn : n ≤ 9223372036854775807) :
    Does Tryz.prog 54 [.pointer (some ⟨T, 0, none⟩), .int .i64 port] w (fun v w' => v = .int .i64 (idxI (fun m => m.out == port) z) ∧ Only [] w w') := by
  have hA := Only.alloc (Only.refl [] w) (.cells ⟨[.int .i64 port]⟩ 3)
  have hb := Blk.new w 3 ⟨[.int .i64 port]⟩
  refine Does.enter (fn := Tryz.f54) (by kernel_rfl) rfl (by kernel_rfl) (by kernel_rfl) ?_
  conv => whnf
  refine ⟨_, Loads.one (by kernel_rfl) ((h.only hA (by simp)).ntM ok), ?_⟩
  conv => whnf
  refine (indexNm_does (p := fun m => m.out == port) (hz.o hA) hn (fun x _ w' ho => portIs_does (hb.only ho (by simp)))).mono ?_
  rintro v w1 ⟨rfl, ho⟩
  conv => whnf
  exact ⟨rfl, hA.t0 ho⟩
def endIs (a : Ad) (port : Int) (m : Nm) : Bool := decide (m.addr = a) && (m.port == port)
set_option maxRecDepth 100000 in
theorem endIs_does {w : World} {qa qp : Nat} {ta tp : TypeId} {a : Ad} {port : Int} {m : Nm} (ha : Blk w qa ta ⟨adC a⟩) (hp : Blk w qp tp ⟨[.int .i64 port]⟩) (oka : okAd a) (okm : okAd m.addr) :
    Does Tryz.prog 140 [.agg ⟨nmC m⟩, .pointer (some ⟨qa, 0, none⟩), .pointer (some ⟨qp, 0, none⟩)] w (fun v w' => v = .bool (endIs a port m) ∧ Only [] w w') := by
  have hA := Only.alloc (Only.refl [] w) (.cells ⟨nmC m⟩ 48)
  have hm := Blk.new w 48 ⟨nmC m⟩
  have hm2 : Blk (w.alloc (.cells ⟨nmC m⟩ 48)) w.heap.size 48 ⟨[] ++ (adC m.addr ++ [.int .i64 m.port, .int .i64 m.out, .int .i64 m.used])⟩ := by
    rw [← adP_id okm]
    exact hm
  refine Does.enter (fn := Tryz.f140) (by kernel_rfl) rfl (by kernel_rfl) (by kernel_rfl) ?_
  conv => whnf
  refine ⟨_, Loads.seg hm2 rfl (by kernel_rfl) (by rw [adC_len okm]; kernel_rfl), ?_⟩
  conv => whnf
  refine ⟨_, Loads.all (ha.only hA (by simp)) (by kernel_rfl) (by rw [adC_len oka]; kernel_rfl), ?_⟩
  conv => whnf
  refine ⟨_, eql_ad okm oka _ _, ?_⟩
  conv => whnf
  refine VIf.dec (fun e => ?_) (fun e => ?_)
  · conv => whnf
    refine ⟨_, Loads.one (by kernel_rfl) (hm.at ((nm_tail m 0).trans rfl)), ?_⟩
    conv => whnf
    refine ⟨_, Loads.one (by kernel_rfl) ((hp.only hA (by simp)).at (i := 0) rfl), ?_⟩
    conv => whnf
    exact ⟨by simp [endIs, e], hA⟩
  · conv => whnf
    exact ⟨by simp [endIs, e], hA⟩
set_option maxRecDepth 100000 in
theorem ofEnd_does {w : World} {T n c : Nat} {G : List Nat} {cf : Cf} {now port : Int} {a : Ad} {A : Option Addr} {O I : Value} {z : List Nm} (h : Blk w T 103 ⟨natC cf now (.slice A n c) O I⟩) (ok : okCf cf) (oka : okAd a) (hz : Sl w 20 G A n (z.flatMap nmC)) (okz : ∀ m ∈ z, okAd m.addr) (hn : n ≤ 9223372036854775807) :
    Does Tryz.prog 64 [.pointer (some ⟨T, 0, none⟩), .agg ⟨adC a⟩, .int .i64 port] w (fun v w' => v = .int .i64 (idxI (endIs a port) z) ∧ Only [] w w') := by
  have hA1 := Only.alloc (Only.refl [] w) (.cells ⟨adC a⟩ 24)
  have hb1 := Blk.new w 24 ⟨adC a⟩
  have hA := hA1.alloc (.cells ⟨[.int .i64 port]⟩ 3)
  have hb2 := Blk.new (w.alloc (.cells ⟨adC a⟩ 24)) 3 ⟨[.int .i64 port]⟩
  have hb1 := hb1.alloc (.cells ⟨[.int .i64 port]⟩ 3)
  refine Does.enter (fn := Tryz.f64) (by kernel_rfl) rfl (by kernel_rfl) (by kernel_rfl) ?_
  conv => whnf
  refine ⟨_, Loads.one (by kernel_rfl) ((h.only hA (by simp)).ntM ok), ?_⟩
  conv => whnf
  refine (indexNm_does (p := endIs a port) (hz.o hA) hn (fun x hx w' ho => endIs_does (hb1.only ho (by simp)) (hb2.only ho (by simp)) oka (okz x hx))).mono ?_
  rintro v w1 ⟨rfl, ho⟩
  conv => whnf
  exact ⟨rfl, hA.t0 ho⟩
end Go.Proofs.YtofomopdaponbaaGreatDoor
/-
  What an ICMP error quotes (package nat): its ports, its addresses.
-/
namespace Go.Proofs.YtofomopdaponbaaGreatDoor
open Go.RowKit
set_option linter.unusedVariables false
set_option linter.unusedSimpArgs false

theorem Does.qe {P : Program} {f : FuncId} {args : List Value} {w w' : World} {v : Value} (h : Does P f args w' (fun u w2 => u = v ∧ w' = w2)) (ho : Only [] w w') : Does P f args w' (fun u w2 => u = v ∧ Only [] w w2) :=
  h.mono fun _ _ ⟨e, e2⟩ => ⟨e, e2 ▸ ho⟩
def quC (A B : Option Addr) (n c m d : Nat) : List Value := [.slice A n c, .slice B m d]
set_option maxRecDepth 100000 in
theorem qport_does {w : World} {G : List Nat} {A B : Option Addr} {n c m d k : Nat} {l : List UInt8} (h : Bs w G B m l) (hk : k = 12 ∨ k = 16) (hm : (k - 12) / 2 + 1 < m) (hmx : m ≤ 9223372036854775807) :
    Does Tryz.prog 58 [.agg ⟨quC A B n c m d⟩, .int .i64 k] w (fun v w' => v = .int .i64 (wordL l ((k - 12) / 2)) ∧ Only [] w w') := by
  have hA := Only.alloc (Only.refl [] w) (.cells ⟨quC A B n c m d⟩ 122)
  have hb := Blk.new w 122 ⟨quC A B n c m d⟩
  have hw := wordL_bd l ((k - 12) / 2)
  have h1 := h.o hA
  refine Does.enter (fn := Tryz.f58) (by kernel_rfl) rfl (by kernel_rfl) (by kernel_rfl) ?_
  conv => whnf
  refine VDraw.abs fun N0 hN => ?_
  refine VDraw.q (by kernel_rfl) (by kernel_rfl) ?_
  conv => whnf
  refine ⟨_, fun w' hw' => Loads.one (by kernel_rfl) ((hb.only hw' (by simp)).at (i := 1) rfl), ?_⟩
  conv => whnf
  refine ⟨_, fun w' hw' => (portAt_does (k := k) (by omega) (by omega)).qe hw', ?_⟩
  conv => whnf
  refine ⟨_, fun w' hw' => (word_does (k := (k - 12) / 2) (h1.o hw') hm hmx).q hw', ?_⟩
  conv => whnf
  intro w2 ho2
  conv => whnf
  refine hN _ _ ?_
  conv => whnf
  refine ⟨congrArg (Value.int IntKind.i64) ?_, hA.t0 ho2⟩
  rw [wi64]
  omega
def qaddrA (l : List UInt8) (k : Nat) : Ad := (4, (l.drop k).take 4 ++ List.replicate 12 0)
set_option maxRecDepth 100000 in
theorem qaddress_does {w : World} {G : List Nat} {A B : Option Addr} {n c m d k : Nat} {l : List UInt8} (h : Bs w G A n l) (hc : n ≤ c) (hcm : c ≤ 9223372036854775807) (hk : k + 4 ≤ n) :
    Does Tryz.prog 57 [.agg ⟨quC A B n c m d⟩, .int .i64 k] w (fun v w' => v = .agg ⟨adC (qaddrA l k)⟩ ∧ Only [] w w') := by
  have hl := h.len
  have hA := Only.alloc (Only.refl [] w) (.cells ⟨quC A B n c m d⟩ 122)
  have hb := Blk.new w 122 ⟨quC A B n c m d⟩
  have hA2 := hA.alloc (.cells ⟨adC (0, List.replicate 16 0)⟩ 24)
  have b4 := Blk.new (w.alloc (.cells ⟨quC A B n c m d⟩ 122)) 24 ⟨adC (0, List.replicate 16 0)⟩
  have hb := hb.alloc (.cells ⟨adC (0, List.replicate 16 0)⟩ 24)
  have hz1 := World.size_alloc w (.cells ⟨quC A B n c m d⟩ 122)
  have hz2 := World.size_alloc (w.alloc (.cells ⟨quC A B n c m d⟩ 122)) (.cells ⟨adC (0, List.replicate 16 0)⟩ 24)
  refine Does.enter (fn := Tryz.f57) (by kernel_rfl) rfl (by kernel_rfl) (by kernel_rfl) ?_
  conv => whnf
  refine vStore.fresh (cs := adC (4, List.replicate 16 0)) (by kernel_rfl) rfl (one_adC _) (fun w2 b5 ho2 hzz => ?_)
  have hb := (hb.only ho2 (by simp)).drew
  have b4 := (b4.only ho2 (by simp)).drew
  obtain ⟨g5, hg5⟩ : ∃ g5, ((w.alloc (.cells ⟨quC A B n c m d⟩ 122)).alloc (.cells ⟨adC (0, List.replicate 16 0)⟩ 24)).heap.size = g5 := ⟨_, rfl⟩
  have b5 : Blk w2 g5 _ _ := hg5 ▸ b5
  have b5 := b5.drew
  have how := (hA2.t0 ho2).drew
  obtain ⟨x0, x1, x2, x3, r, hx⟩ : ∃ x0 x1 x2 x3 r, l.drop k = x0 :: x1 :: x2 :: x3 :: r := by
    have h4 : 4 ≤ (l.drop k).length := by rw [List.length_drop]; omega
    generalize l.drop k = y at h4
    match y, h4 with
    | x0 :: x1 :: x2 :: x3 :: r, _ => exact ⟨x0, x1, x2, x3, r, rfl⟩
  conv => whnf
  refine VDraw.held (fun w' => Blk w' w.heap.size 122 ⟨quC A B n c m d⟩) [0, 1, 2, 3, 4, 5, 6] (by kernel_rfl) (by kernel_rfl) hb ?_
  conv => whnf
  refine ⟨0, 4, 16, rfl, rfl, rfl, by decide, by decide, by decide, ⟨g5, 1, none⟩, 4, 16, ?_, rfl, rfl, ?_⟩
  · rw [← hg5]
    rfl
  conv => whnf
  refine ⟨_, fun w' hw' => Loads.one (by kernel_rfl) (hw'.at (i := 0) rfl), ?_⟩
  conv => whnf
  have hcut := (h.o how).cut (lo := k) (hi := n) (m := c) (by omega) hc (Nat.le_refl _) rfl
  rw [List.take_of_length_le (by rw [List.length_drop]; omega), hx] at hcut
  refine ⟨k, n, c, rfl, rfl, rfl, by omega, hc, Nat.le_refl _, _, n - k, c - k, rfl, rfl, rfl, ?_⟩
  conv => whnf
  refine vFall.copy (e := 5) rfl (by kernel_rfl) (by kernel_rfl) rfl b5 rfl hcut (by omega) (Nat.le_of_ble_eq_true rfl) (fun w3 b5 hoS _ => ?_)
  have b5 : Blk _ g5 24 ⟨adC (4, [x0, x1, x2, x3, 0, 0, 0, 0, 0, 0, 0, 0, 0, 0, 0, 0])⟩ := b5
  have hne : w.heap.size ∉ [g5] := by simp; omega
  refine ⟨hb.only hoS hne, ?_⟩
  have b4 := b4.only hoS (by simp; omega)
  have how := how.nw hoS (by omega)
  conv => whnf
  refine ⟨_, Loads.all (hg5 ▸ b5) (by kernel_rfl) (by kernel_rfl), ?_⟩
  conv => whnf
  refine vStore.all b4 (by kernel_rfl) rfl (one_adC _) (fun w4 b4 hoZ _ => ?_)
  conv => whnf
  refine ⟨_, Loads.all b4 (by kernel_rfl) (by kernel_rfl), ?_⟩
  conv => whnf
  refine ⟨?_, how.nw hoZ (by omega)⟩
  unfold qaddrA
  rw [hx]
  rfl
theorem one_kyC (x : Ky) : ∀ u ∈ kyC x, isOne u = true := one_cons rfl (one_app (one_adC _) (one_app (one_adC _) (one_cons rfl (one_cons rfl one_nil))))
def kyP (p : Pk) : Ky := ⟨p.v, p.src, p.dst, p.proto, p.id⟩
set_option maxRecDepth 100000 in
theorem key_does {w : World} {p : Pk} {O D : At} (hp : okPk p) : Does Tryz.prog 129 [.agg ⟨pkC p O D⟩] w (fun v w' => v = .agg ⟨kyC (kyP p)⟩ ∧ Only [] w w') := by
  have hA := Only.alloc (Only.refl [] w) (.cells ⟨pkC p O D⟩ 56)
  have hb := Blk.new w 56 ⟨pkC p O D⟩
  have e1 := adP_id hp.src
  have e2 := adP_id hp.dst
  refine Does.enter (fn := Tryz.f129) (by kernel_rfl) rfl (by kernel_rfl) (by kernel_rfl) ?_
  conv => whnf
  have hA2 := hA.alloc (.cells ⟨kyC ⟨0, (0, []), (0, []), 0, 0⟩⟩ 173)
  have hb := hb.alloc (.cells ⟨kyC ⟨0, (0, []), (0, []), 0, 0⟩⟩ 173)
  refine ⟨_, Loads.one (by kernel_rfl) hb.pkV, ?_⟩
  conv => whnf
  refine ⟨_, hb.pkSrc hp, ?_⟩
  conv => whnf
  refine ⟨_, hb.pkDst hp, ?_⟩
  conv => whnf
  refine ⟨_, Loads.one (by kernel_rfl) (hb.pkProto hp), ?_⟩
  conv => whnf
  refine ⟨_, Loads.one (by kernel_rfl) (hb.pkId hp), ?_⟩
  conv => whnf
  refine lenIs.of (by rw [List.length_map]; exact hp.src.2.2) ?_
  conv => whnf
  refine lenIs.of (by rw [List.length_map]; exact hp.dst.2.2) ?_
  conv => whnf
  have hk : joinL [[.int .i64 p.v], adC p.src, adC p.dst, [.int .i64 p.proto], [.int .u32 p.id]] = kyC (kyP p) := by simp [joinL, kyC, kyP, e1, e2]
  show ∃ w', Stores _ _ ⟨_, 0, none⟩ (.agg ⟨joinL [[.int .i64 p.v], adC p.src, adC p.dst, [.int .i64 p.proto], [.int .u32 p.id]]⟩) ((w.alloc (.cells ⟨pkC p O D⟩ 56)).alloc (.cells ⟨kyC ⟨0, (0, []), (0, []), 0, 0⟩⟩ 173)) w' ∧ _
  rw [hk]
  refine vStore.fresh (cs := kyC (kyP p)) (by rw [kyC_len]; kernel_rfl) (by rw [kyC_len]; rfl) (one_kyC _) (fun w2 b2 ho2 hz2 => ?_)
  conv => whnf
  refine ⟨_, Loads.all b2 (by kernel_rfl) (by rw [kyC_len]; kernel_rfl), ?_⟩
  conv => whnf
  exact ⟨rfl, hA.t0 ho2⟩
structure okKy (k : Ky) : Prop where
  v : -9223372036854775808 ≤ k.v ∧ k.v ≤ 9223372036854775807
  src : okAd k.src
  dst : okAd k.dst
  proto : -9223372036854775808 ≤ k.proto ∧ k.proto ≤ 9223372036854775807
  id : 0 ≤ k.id ∧ k.id ≤ 4294967295
def kyL (k : Ky) : List Lit := .int .i64 k.v :: (adL k.src ++ (adL k.dst ++ [.int .i64 k.proto, .int .u32 k.id]))
theorem u32_wf {x : Int} (h : 0 ≤ x) (h' : x ≤ 4294967295) : (Lit.int .u32 x).wf = true := by
  simp [Lit.wf, IntKind.min, IntKind.max, IntKind.signed, IntKind.bits]
  omega
theorem adL_len {a : Ad} (h : okAd a) : (adL a).length = 17 := by simp [adL, h.2.2]
theorem kyL_inj {a b : Ky} (ha : okKy a) (hb : okKy b) : kyL a = kyL b ↔ a = b := by
  constructor
  · intro h
    unfold kyL at h
    injection h with h1 h2
    obtain ⟨h3, h4⟩ := List.append_inj h2 (by rw [adL_len ha.src, adL_len hb.src])
    obtain ⟨h5, h6⟩ := List.append_inj h4 (by rw [adL_len ha.dst, adL_len hb.dst])
    have e1 : a.v = b.v := by injection h1
    have e2 := adL_inj.1 h3
    have e3 := adL_inj.1 h5
    injection h6 with h7 h8
    injection h8 with h9 _
    have e4 : a.proto = b.proto := by injection h7
    have e5 : a.id = b.id := by injection h9
    cases a
    cases b
    simp only at e1 e2 e3 e4 e5
    subst e1 e2 e3 e4 e5
    rfl
  · rintro rfl
    rfl
theorem ky_lits {k : Ky} (h : okKy k) : Tryz.prog.keyLits 4 173 (kyC k) = some (kyL k) := by
  have c173 : Tryz.prog.cellsOf 173 = 37 := by kernel_rfl
  have c24 : Tryz.prog.cellsOf 24 = 17 := by kernel_rfl
  have c3 : Tryz.prog.cellsOf 3 = 1 := by kernel_rfl
  have c54 : Tryz.prog.cellsOf 54 = 1 := by kernel_rfl
  have l1 := ad_lits h.src 0
  have l2 := ad_lits h.dst 0
  have k1 := keyLits_int (P := Tryz.prog) (D := 2) Tryz.underlying3 (i64_wf h.v.1 h.v.2)
  have k2 := keyLits_int (P := Tryz.prog) (D := 2) Tryz.underlying3 (i64_wf h.proto.1 h.proto.2)
  have k3 := keyLits_int (P := Tryz.prog) (D := 2) Tryz.underlying54 (u32_wf h.id.1 h.id.2)
  have hk : kyC k = .int .i64 k.v :: (adC k.src ++ (adC k.dst ++ [.int .i64 k.proto, .int .u32 k.id])) := by simp [kyC, adP_id h.src, adP_id h.dst]
  have n1 := adC_len h.src
  have n2 := adC_len h.dst
  have d1 : (adC k.src ++ (adC k.dst ++ [Value.int .i64 k.proto, .int .u32 k.id])).take 17 = adC k.src := List.take_left' n1
  have d2 : (adC k.src ++ (adC k.dst ++ [Value.int .i64 k.proto, .int .u32 k.id])).drop 17 = adC k.dst ++ [Value.int .i64 k.proto, .int .u32 k.id] := List.drop_left' n1
  have d3 : (adC k.dst ++ [Value.int .i64 k.proto, .int .u32 k.id]).take 17 = adC k.dst := List.take_left' n2
  have d4 : (adC k.src ++ (adC k.dst ++ [Value.int .i64 k.proto, .int .u32 k.id])).drop 34 = [Value.int .i64 k.proto, .int .u32 k.id] := by
    rw [show 34 = 17 + 17 by rfl, ← List.drop_drop, d2, List.drop_left' n2]
  have d5 : (adC k.src ++ (adC k.dst ++ [Value.int .i64 k.proto, .int .u32 k.id])).drop 35 = [Value.int .u32 k.id] := by
    rw [show 35 = 34 + 1 by rfl, ← List.drop_drop, d4]
    rfl
  rw [hk]
  unfold Program.keyLits
  simp only [Tryz.underlying173]
  rw [if_pos ⟨by rw [c173]; simp [n1, n2], by kernel_rfl⟩]
  simp only [List.mapM_cons, List.mapM_nil, c3, c24, c54, List.drop_zero, List.take_succ_cons, List.take_zero, List.drop_succ_cons, d1, d2, d3, d4, d5, k1, k2, k3, l1, l2]
  simp [kyL]
theorem eql_ky {a b : Ky} (ha : okKy a) (hb : okKy b) (xo yo : Operand) : Eql Tryz.prog 173 xo yo (.agg ⟨kyC a⟩) (.agg ⟨kyC b⟩) (decide (a = b)) :=
  Eql.deep 5 (by decide) (by kernel_rfl) (by kernel_rfl) (formed_of (by kernel_rfl) (by rw [kyC_len]; kernel_rfl)) (formed_of (by kernel_rfl) (by rw [kyC_len]; kernel_rfl)) (ky_lits ha) (ky_lits hb) (by rw [decide_eq_true_iff, kyL_inj ha hb])
set_option maxRecDepth 100000 in
theorem keyIs_does {w : World} {q : Nat} {tq : TypeId} {k : Ky} {x : Nt} (hb : Blk w q tq ⟨kyC k⟩) (okk : okKy k) (okx : okKy x.key) :
    Does Tryz.prog 138 [.agg ⟨ntC x⟩, .pointer (some ⟨q, 0, none⟩)] w (fun v w' => v = .bool (decide (x.key = k)) ∧ Only [] w w') := by
  have hA := Only.alloc (Only.refl [] w) (.cells ⟨ntC x⟩ 185)
  have hx : Blk (w.alloc (.cells ⟨ntC x⟩ 185)) w.heap.size 185 ⟨[] ++ (kyC x.key ++ (adP x.addr ++ [.int .i64 x.from_]))⟩ := Blk.new w 185 ⟨ntC x⟩
  refine Does.enter (fn := Tryz.f138) (by kernel_rfl) rfl (by kernel_rfl) (by kernel_rfl) ?_
  conv => whnf
  refine ⟨_, Loads.seg hx rfl (by kernel_rfl) (by rw [kyC_len]; kernel_rfl), ?_⟩
  conv => whnf
  refine ⟨_, Loads.all (hb.only hA (by simp)) (by kernel_rfl) (by rw [kyC_len]; kernel_rfl), ?_⟩
  conv => whnf
  refine ⟨_, eql_ky okx okk _ _, ?_⟩
  conv => whnf
  exact ⟨rfl, hA⟩
theorem okKy_of {p : Pk} (h : okPk p) (hv : -9223372036854775808 ≤ p.v ∧ p.v ≤ 9223372036854775807) (hp : -9223372036854775808 ≤ p.proto ∧ p.proto ≤ 9223372036854775807) (hi : 0 ≤ p.id ∧ p.id ≤ 4294967295) : okKy (kyP p) := ⟨hv, h.src, h.dst, hp, hi⟩
set_option maxRecDepth 100000 in
theorem recallIs_does {w : World} {q : Nat} {tq : TypeId} {p : Pk} {O D : At} {x : Nt} (hb : Blk w q tq ⟨pkC p O D⟩) (hp : okPk p) (okk : okKy (kyP p)) (okx : okKy x.key) :
    Does Tryz.prog 128 [.agg ⟨ntC x⟩, .pointer (some ⟨q, 0, none⟩)] w (fun v w' => v = .bool (decide (x.key = kyP p)) ∧ Only [] w w') := by
  have hA := Only.alloc (Only.refl [] w) (.cells ⟨ntC x⟩ 185)
  have hx : Blk (w.alloc (.cells ⟨ntC x⟩ 185)) w.heap.size 185 ⟨[] ++ (kyC x.key ++ (adP x.addr ++ [.int .i64 x.from_]))⟩ := Blk.new w 185 ⟨ntC x⟩
  have hb1 := hb.only hA (by simp)
  refine Does.enter (fn := Tryz.f128) (by kernel_rfl) rfl (by kernel_rfl) (by kernel_rfl) ?_
  conv => whnf
  refine VDraw.abs fun N0 hN => ?_
  refine VDraw.q (by kernel_rfl) (by kernel_rfl) ?_
  conv => whnf
  refine ⟨_, fun w' hw' => Loads.seg (hx.only hw' (by simp)) rfl (by kernel_rfl) (by rw [kyC_len]; kernel_rfl), ?_⟩
  conv => whnf
  refine ⟨_, fun w' hw' => (hb1.only hw' (by simp)).pkAll hp, ?_⟩
  conv => whnf
  refine ⟨_, fun w' hw' => (key_does hp).q hw', ?_⟩
  conv => whnf
  refine ⟨_, eql_ky okx okk _ _, ?_⟩
  conv => whnf
  intro w2 ho2
  conv => whnf
  refine hN _ _ ?_
  conv => whnf
  exact ⟨rfl, hA.t0 ho2⟩
def recA (k : Ky) (z : List Nt) : Ad × Bool := match z.find? (fun x => decide (x.key = k)) with | some x => (x.addr, true) | none => ((0, List.replicate 16 0), false)
theorem recA_none {k : Ky} {z : List Nt} (h : idxI (fun x => decide (x.key = k)) z < 0) : recA k z = ((0, List.replicate 16 0), false) := by
  unfold recA
  unfold idxI at h
  split at h
  · omega
  · rename_i hn
    rw [List.find?_eq_none.2 (fun x hx => by rw [List.findIdx?_eq_none_iff.1 hn x hx]; decide)]
theorem recA_some {k : Ky} {z : List Nt} (h : ¬ idxI (fun x => decide (x.key = k)) z < 0) : ∃ i, ∃ hi : i < z.length, idxI (fun x => decide (x.key = k)) z = (i : Int) ∧ recA k z = (z[i].addr, true) := by
  unfold idxI at h ⊢
  split at h
  · rename_i i hi
    obtain ⟨h1, h2, h3⟩ := List.findIdx?_eq_some_iff_getElem.1 hi
    refine ⟨i, h1, rfl, ?_⟩
    unfold recA
    have e : z.find? (fun x => decide (x.key = k)) = some z[i] := List.find?_eq_some_iff_getElem.2 ⟨h2, i, h1, rfl, fun j hj => by simpa using h3 j hj⟩
    rw [e]
  · exact absurd (by decide : (-1 : Int) < 0) h
theorem nt_addr (x : Nt) {j : Nat} (hj : j < 17) : (ntC x)[37 + j]? = (adP x.addr)[j]? := by
  unfold ntC
  rw [List.getElem?_append_right (by rw [kyC_len]; omega), kyC_len, show 37 + j - 37 = j by omega, List.getElem?_append_left (by rw [adP_len]; exact hj)]
theorem Sl.ntAddr {w : World} {n b off i : Nat} {G : List Nat} {z : List Nt} (h : Sl w 55 G (some ⟨b, off, none⟩) n (z.flatMap ntC)) (hi : i < z.length) : Loads Tryz.prog 24 ⟨b, off + i * 55 + 37, none⟩ w (.agg ⟨adP z[i].addr⟩) :=
  Loads.many (by kernel_rfl) (by rw [adP_len]; kernel_rfl) fun j u hu => by
    have hj : j < 17 := by
      have := (List.getElem?_eq_some_iff.1 hu).1
      rwa [adP_len] at this
    rw [show off + i * 55 + 37 + j = off + (i * 55 + (37 + j)) by omega]
    exact h.ld (by rw [flat_get ntC_len z i (37 + j) hi (by omega), nt_addr _ hj]; exact hu)
set_option maxRecDepth 100000 in
theorem recalled_does {w : World} {n c : Nat} {G : List Nat} {A : Option Addr} {p : Pk} {O D : At} {z : List Nt} (hz : Sl w 55 G A n (z.flatMap ntC)) (hn : n ≤ 9223372036854775807) (hp : okPk p) (okk : okKy (kyP p)) (okz : ∀ x ∈ z, okKy x.key ∧ okAd x.addr) :
    Does Tryz.prog 52 [.slice A n c, .agg ⟨pkC p O D⟩] w (fun v w' => v = .tuple ⟨[.agg ⟨adC (recA (kyP p) z).1⟩, .bool (recA (kyP p) z).2]⟩ ∧ Only [] w w') := by
  have hl := hz.num ntC_len (by decide)
  have hA1 := Only.alloc (Only.refl [] w) (.cells ⟨pkC p O D⟩ 56)
  have hb := (Blk.new w 56 ⟨pkC p O D⟩).alloc (.cells ⟨adC (0, List.replicate 16 0)⟩ 24)
  have hA := hA1.alloc (.cells ⟨adC (0, List.replicate 16 0)⟩ 24)
  have b4 := Blk.new (w.alloc (.cells ⟨pkC p O D⟩ 56)) 24 ⟨adC (0, List.replicate 16 0)⟩
  have hsz := World.size_alloc w (.cells ⟨pkC p O D⟩ 56)
  refine Does.enter (fn := Tryz.f52) (by kernel_rfl) rfl (by kernel_rfl) (by kernel_rfl) ?_
  conv => whnf
  refine (indexNt_does (p := fun x => decide (x.key = kyP p)) (hz.o hA) hn (fun x hx w' ho => recallIs_does (hb.only ho (by simp)) hp okk (okz x hx).1)).mono ?_
  rintro v w1 ⟨rfl, ho⟩
  have b4 := b4.only ho (by simp)
  have how := hA.t0 ho
  have hz1 := hz.o how
  conv => whnf
  refine VIf.dec (fun h => ?_) (fun h => ?_)
  · conv => whnf
    refine vStore.all (cs := adC (0, List.replicate 16 0)) b4 (by kernel_rfl) rfl (one_adC _) (fun wz bz hoZ _ => ?_)
    conv => whnf
    refine ⟨_, Loads.all bz (by kernel_rfl) (by kernel_rfl), ?_⟩
    conv => whnf
    rw [recA_none h]
    exact ⟨rfl, how.nw hoZ (by omega)⟩
  · obtain ⟨i, hi, e, hrec⟩ := recA_some h
    obtain ⟨b, off, rfl, -⟩ := hz1.some_ (by omega)
    have okx := (okz z[i] (List.getElem_mem hi)).2
    rw [e]
    conv => whnf
    refine ⟨_, _, rfl, i, off + i * 55, rfl, by omega, rfl, ?_⟩
    conv => whnf
    refine ⟨_, hz1.ntAddr hi, ?_⟩
    rw [adP_id okx]
    conv => whnf
    refine vStore.all (cs := adC z[i].addr) b4 (by rw [adC_len okx]; kernel_rfl) (by rw [adC_len okx]; rfl) (one_adC _) (fun wz bz hoZ _ => ?_)
    conv => whnf
    refine ⟨_, Loads.all bz (by kernel_rfl) (by rw [adC_len okx]; kernel_rfl), ?_⟩
    conv => whnf
    rw [hrec]
    exact ⟨rfl, how.nw hoZ (by omega)⟩
end Go.Proofs.YtofomopdaponbaaGreatDoor
/-
  Time goes by (package nat): what has lived long enough is gone.
-/
namespace Go.Proofs.YtofomopdaponbaaGreatDoor
open Go.RowKit
set_option linter.unusedVariables false
set_option linter.unusedSimpArgs false

/-- Has it lived so long? -/
def aged (now from_ life : Int) : Bool := decide (IntKind.i64.wrap (now - from_) ≥ life)
set_option maxRecDepth 100000 in
theorem agedM_does {w : World} {qt qn T : Nat} {tt tn t : TypeId} {cf : Cf} {now0 now : Int} {M O I : Value} {m : Nm} (h1 : Blk w qt tt ⟨[.int .i64 now]⟩) (h2 : Blk w qn tn ⟨[.pointer (some ⟨T, 0, none⟩)]⟩) (h3 : Blk w T t ⟨natC cf now0 M O I⟩) (ok : okCf cf) :
    Does Tryz.prog 192 [.agg ⟨nmC m⟩, .pointer (some ⟨qt, 0, none⟩), .pointer (some ⟨qn, 0, none⟩)] w (fun v w' => v = .bool (aged now m.used cf.life) ∧ Only [] w w') := by
  have hA := Only.alloc (Only.refl [] w) (.cells ⟨nmC m⟩ 48)
  have hm := Blk.new w 48 ⟨nmC m⟩
  refine Does.enter (fn := Tryz.f192) (by kernel_rfl) rfl (by kernel_rfl) (by kernel_rfl) ?_
  conv => whnf
  refine VDraw.abs fun N0 hN => ?_
  refine VDraw.q (by kernel_rfl) (by kernel_rfl) ?_
  conv => whnf
  refine ⟨_, fun w' hw' => Loads.one (by kernel_rfl) ((h1.only (hA.t0 hw') (by simp)).at (i := 0) rfl), ?_⟩
  conv => whnf
  refine ⟨_, fun w' hw' => Loads.one (by kernel_rfl) ((hm.only hw' (by simp)).at ((nm_tail m 2).trans rfl)), ?_⟩
  conv => whnf
  refine ⟨_, fun w' hw' => Loads.one (by kernel_rfl) ((h2.only (hA.t0 hw') (by simp)).at (i := 0) rfl), ?_⟩
  conv => whnf
  refine ⟨_, fun w' hw' => Loads.one (by kernel_rfl) ((h3.only (hA.t0 hw') (by simp)).ntLife ok), ?_⟩
  conv => whnf
  intro w2 ho2
  conv => whnf
  refine hN _ _ ?_
  conv => whnf
  exact ⟨rfl, hA.t0 ho2⟩
theorem nt_from (x : Nt) : (ntC x)[54]? = some (.int .i64 x.from_) := by
  unfold ntC
  rw [List.getElem?_append_right (by rw [kyC_len]; decide), kyC_len, List.getElem?_append_right (by rw [adP_len]; decide), adP_len]
  rfl
set_option maxRecDepth 100000 in
theorem agedN_does {w : World} {qt qn T : Nat} {tt tn t : TypeId} {cf : Cf} {now0 now : Int} {M O I : Value} {x : Nt} (h1 : Blk w qt tt ⟨[.int .i64 now]⟩) (h2 : Blk w qn tn ⟨[.pointer (some ⟨T, 0, none⟩)]⟩) (h3 : Blk w T t ⟨natC cf now0 M O I⟩) (ok : okCf cf) :
    Does Tryz.prog 193 [.agg ⟨ntC x⟩, .pointer (some ⟨qt, 0, none⟩), .pointer (some ⟨qn, 0, none⟩)] w (fun v w' => v = .bool (aged now x.from_ cf.hold) ∧ Only [] w w') := by
  have hA := Only.alloc (Only.refl [] w) (.cells ⟨ntC x⟩ 185)
  have hm := Blk.new w 185 ⟨ntC x⟩
  refine Does.enter (fn := Tryz.f193) (by kernel_rfl) rfl (by kernel_rfl) (by kernel_rfl) ?_
  conv => whnf
  refine VDraw.abs fun N0 hN => ?_
  refine VDraw.q (by kernel_rfl) (by kernel_rfl) ?_
  conv => whnf
  refine ⟨_, fun w' hw' => Loads.one (by kernel_rfl) ((h1.only (hA.t0 hw') (by simp)).at (i := 0) rfl), ?_⟩
  conv => whnf
  refine ⟨_, fun w' hw' => Loads.one (by kernel_rfl) ((hm.only hw' (by simp)).at (nt_from x)), ?_⟩
  conv => whnf
  refine ⟨_, fun w' hw' => Loads.one (by kernel_rfl) ((h2.only (hA.t0 hw') (by simp)).at (i := 0) rfl), ?_⟩
  conv => whnf
  refine ⟨_, fun w' hw' => Loads.one (by kernel_rfl) ((h3.only (hA.t0 hw') (by simp)).ntHold ok), ?_⟩
  conv => whnf
  intro w2 ho2
  conv => whnf
  refine hN _ _ ?_
  conv => whnf
  exact ⟨rfl, hA.t0 ho2⟩
end Go.Proofs.YtofomopdaponbaaGreatDoor
