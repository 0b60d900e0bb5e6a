/-
  UDP datagrams (package udp): pair, Pseudo, whole, Parse.
-/
import Derived.Test.YtofomopdaponbaaGreatDoorZj
namespace Go.Proofs.YtofomopdaponbaaGreatDoor
open Go.RowKit
set_option linter.unusedVariables false
set_option linter.unusedSimpArgs false

def pairA (a b : Ad) : Bool := decide (a.1 = b.1) && validA a && validA b
set_option maxRecDepth 100000 in
theorem pair_does {w : World} {a b : Ad} (ha : okAd a) (hb : okAd b) : Does Tryz.prog 151 [.agg ⟨adC a⟩, .agg ⟨adC b⟩] w (fun v w' => v = .bool (pairA a b) ∧ Only [] w w') := by
  have hA := (Only.alloc (Only.refl [] w) (.cells ⟨adC a⟩ 24)).alloc (.cells ⟨adC b⟩ 24)
  have b2 := (Blk.new w 24 ⟨adC a⟩).alloc (.cells ⟨adC b⟩ 24)
  have b3 := Blk.new (w.alloc (.cells ⟨adC a⟩ 24)) 24 ⟨adC b⟩
  refine Does.enter (fn := Tryz.f151) (by kernel_rfl) rfl (by kernel_rfl) (by kernel_rfl) ?_
  conv => whnf
  refine ⟨_, Loads.one (by kernel_rfl) (b2.at (i := 0) rfl), ?_⟩
  conv => whnf
  refine ⟨_, Loads.one (by kernel_rfl) (b3.at (i := 0) rfl), ?_⟩
  refine splitB.abs fun N0 hN => ?_
  conv => whnf
  refine VIf.eq (fun h1 => ?_) (fun h1 => ?_)
  rotate_left
  · conv => whnf
    refine hN _ _ ?_
    conv => whnf
    exact ⟨congrArg Value.bool (by unfold pairA; rw [decide_eq_false h1]; rfl), hA⟩
  conv => whnf
  refine ⟨_, Loads.all b2 (by kernel_rfl) (by rw [adC_len ha]; kernel_rfl), ?_⟩
  conv => whnf
  refine (valid_does ha).mono ?_
  rintro v w2 ⟨rfl, ho2⟩
  conv => whnf
  refine VIf.of (b := validA a) (fun h2 => ?_) (fun h2 => ?_)
  rotate_left
  · conv => whnf
    refine hN _ _ ?_
    conv => whnf
    exact ⟨congrArg Value.bool (by unfold pairA; rw [h2]; simp), hA.t0 ho2⟩
  conv => whnf
  refine ⟨_, Loads.all (b3.only ho2 (by simp)) (by kernel_rfl) (by rw [adC_len hb]; kernel_rfl), ?_⟩
  conv => whnf
  refine (valid_does hb).mono ?_
  rintro v w3 ⟨rfl, ho3⟩
  conv => whnf
  refine hN _ _ ?_
  conv => whnf
  exact ⟨congrArg Value.bool (by unfold pairA; rw [decide_eq_true h1, h2]; simp), (hA.t0 ho2).t0 ho3⟩
def mostI (v : Int) : Int := if v = 4 then 65507 else 65527
set_option maxRecDepth 100000 in
theorem most_does {w : World} {v : Int} : Does Tryz.prog 152 [.int .i64 v] w (fun r w' => r = .int .i64 (mostI v) ∧ w = w') := by
  refine Does.enter (fn := Tryz.f152) (by kernel_rfl) rfl (by kernel_rfl) (by kernel_rfl) ?_
  conv => whnf
  refine VIf.eq (fun h => ?_) (fun h => ?_)
  · conv => whnf
    exact ⟨congrArg (Value.int .i64) (if_pos h).symm, rfl⟩
  · conv => whnf
    exact ⟨congrArg (Value.int .i64) (if_neg h).symm, rfl⟩
def longN (a : Ad) : Nat := if a.1 = 4 then 4 else 16
def pseudoI (a b : Ad) (proto : Int) (n : Nat) : Int := addI (addI (addI (partL (a.2.take (longN a))) (partL (b.2.take (longN a)))) proto) n
set_option maxRecDepth 100000 in
theorem pseudo_does {w : World} {a b : Ad} {proto : Int} {n : Nat} (ha : okAd a) (hb : okAd b) (hp : pairA a b = true) (h0 : 0 ≤ proto ∧ proto ≤ 255) (hn : n ≤ 65535) :
    Does Tryz.prog 211 [.agg ⟨adC a⟩, .agg ⟨adC b⟩, .int .i64 proto, .int .i64 n] w (fun v w' => v = .tuple ⟨[.int .u16 (pseudoI a b proto n), .int .i64 0]⟩ ∧ Only [] w w') := by
  have hA := (Only.alloc (Only.refl [] w) (.cells ⟨adC a⟩ 24)).alloc (.cells ⟨adC b⟩ 24)
  have b4 := (Blk.new w 24 ⟨adC a⟩).alloc (.cells ⟨adC b⟩ 24)
  have b5 := Blk.new (w.alloc (.cells ⟨adC a⟩ 24)) 24 ⟨adC b⟩
  have la := ha.2.2
  have lb := hb.2.2
  refine Does.enter (fn := Tryz.f211) (by kernel_rfl) rfl (by kernel_rfl) (by kernel_rfl) ?_
  conv => whnf
  refine ⟨_, Loads.all b4 (by kernel_rfl) (by rw [adC_len ha]; kernel_rfl), ?_⟩
  conv => whnf
  refine ⟨_, Loads.all b5 (by kernel_rfl) (by rw [adC_len hb]; kernel_rfl), ?_⟩
  conv => whnf
  refine (pair_does ha hb).mono ?_
  rintro v w2 ⟨rfl, ho2⟩
  have b4 := b4.only ho2 (by simp)
  have b5 := b5.only ho2 (by simp)
  have how := hA.t0 ho2
  rw [hp]
  conv => whnf
  refine VIf.dec (fun h => ?_) (fun _ => ?_)
  · have h : proto < 0 := h
    omega
  conv => whnf
  refine VIf.dec (fun h => ?_) (fun _ => ?_)
  · have h : proto > 255 := h
    omega
  conv => whnf
  refine VIf.dec (fun h => ?_) (fun _ => ?_)
  · have h : (n : Int) > 65535 := h
    omega
  conv => whnf
  refine VJoin.cut (α := Unit) [(10, 11), (32, 35)] (fun _ => [(10, .int .i64 (longN a))]) (fun _ w' => w' = w2) (by kernel_rfl) ?_ ?_
  · conv => whnf
    refine ⟨_, Loads.one (by kernel_rfl) (b4.at (i := 0) rfl), ?_⟩
    conv => whnf
    refine VIf.eq (fun h => ?_) (fun h => ?_)
    · conv => whnf
      exact ⟨(), ⟨congrArg (Value.int .i64) (by show (4 : Int) = ((longN a : Nat) : Int); unfold longN; rw [if_pos h]; rfl), trivial⟩, rfl⟩
    · conv => whnf
      exact ⟨(), ⟨congrArg (Value.int .i64) (by show (16 : Int) = ((longN a : Nat) : Int); unfold longN; rw [if_neg h]; rfl), trivial⟩, rfl⟩
  rintro _ wr j rfl
  have hlong : longN a = 4 ∨ longN a = 16 := by
    unfold longN
    split
    · exact .inl rfl
    · exact .inr rfl
  have hsl : ∀ {q : Nat} {x : Ad} (hb : Blk wr q 24 ⟨adC x⟩) (lx : x.2.length = 16), Bs wr [q] (some ⟨q, 1, none⟩) (longN a) (x.2.take (longN a)) := fun {q x} hb lx => by
    have hb' : Blk wr q 24 ⟨[.int .i64 x.1] ++ ((x.2.take (longN a)).map u8 ++ (x.2.drop (longN a)).map u8)⟩ := by
      rw [← List.map_append, List.take_append_drop]
      exact hb
    have := Bs.of_blk hb' (o := 1) rfl
    rwa [show (x.2.take (longN a)).length = longN a by rw [List.length_take]; omega] at this
  have hs1 := hsl b4 la
  have hs2 := hsl b5 lb
  have p1' := partL_bd (a.2.take (longN a))
  have p2' := partL_bd (b.2.take (longN a))
  have q1 := addI_bd p1'.1 p2'.1
  conv => whnf
  refine VDraw.abs fun N0 hN => ?_
  refine VDraw.q (by kernel_rfl) (by kernel_rfl) ?_
  conv => whnf
  refine ⟨0, longN a, 16, rfl, rfl, rfl, by omega, by omega, by omega, ⟨w.heap.size, 1, none⟩, longN a, 16, rfl, rfl, rfl, ?_⟩
  conv => whnf
  refine ⟨.int .u16 (partL (a.2.take (longN a))), fun w' hw' => (part_does (hs1.o hw') (by omega) (by omega)).q hw', ?_⟩
  conv => whnf
  refine ⟨0, longN a, 16, rfl, rfl, rfl, by omega, by omega, by omega, ⟨(w.alloc (.cells ⟨adC a⟩ 24)).heap.size, 1, none⟩, longN a, 16, rfl, rfl, rfl, ?_⟩
  conv => whnf
  refine ⟨.int .u16 (partL (b.2.take (longN a))), fun w' hw' => (part_does (hs2.o hw') (by omega) (by omega)).q hw', ?_⟩
  conv => whnf
  refine ⟨_, fun w' hw' => (add_does p1'.1 p1'.2 p2'.1 p2'.2).qe hw', ?_⟩
  conv => whnf
  intro w3 ho3
  refine hN _ _ ?_
  have e1 : IntKind.u16.wrap proto = proto := by rw [wr16]; omega
  have e2 : IntKind.u16.wrap (n : Int) = (n : Int) := by rw [wr16]; omega
  have q2 := addI_bd q1.1 h0.1
  conv => whnf
  rw [e1]
  refine (add_does q1.1 q1.2 h0.1 (by omega)).mono ?_
  rintro v w4 ⟨rfl, rfl⟩
  conv => whnf
  rw [e2]
  refine (add_does q2.1 q2.2 (by omega) (by omega)).mono ?_
  rintro v w4 ⟨rfl, rfl⟩
  conv => whnf
  exact ⟨rfl, how.t0 ho3⟩
def wholeI (a b : Ad) (l : List UInt8) : Int := addI (pseudoI a b 17 l.length) (partL l)
theorem pseudoI_bd (a b : Ad) {proto : Int} (h0 : 0 ≤ proto) (n : Nat) : 0 ≤ pseudoI a b proto n ∧ pseudoI a b proto n ≤ 65535 := by
  have p1' := partL_bd (a.2.take (longN a))
  have p2' := partL_bd (b.2.take (longN a))
  have q1 := addI_bd p1'.1 p2'.1
  have q2 := addI_bd q1.1 h0
  exact addI_bd q2.1 (by omega)
set_option maxRecDepth 100000 in
theorem whole_does {w : World} {a b : Ad} {G : List Nat} {A : Option Addr} {n c : Nat} {l : List UInt8} (ha : okAd a) (hb : okAd b) (hp : pairA a b = true) (hl : Bs w G A n l) (hn : n ≤ 65535) (hc : n ≤ c) :
    Does Tryz.prog 153 [.agg ⟨adC a⟩, .agg ⟨adC b⟩, .slice A n c] w (fun v w' => v = .int .u16 (wholeI a b l) ∧ Only [] w w') := by
  have hA := (Only.alloc (Only.refl [] w) (.cells ⟨adC a⟩ 24)).alloc (.cells ⟨adC b⟩ 24)
  have b3 := (Blk.new w 24 ⟨adC a⟩).alloc (.cells ⟨adC b⟩ 24)
  have b4 := Blk.new (w.alloc (.cells ⟨adC a⟩ 24)) 24 ⟨adC b⟩
  have hll := hl.len
  have pb := pseudoI_bd a b (proto := 17) (by decide) n
  have pl := partL_bd l
  refine Does.enter (fn := Tryz.f153) (by kernel_rfl) rfl (by kernel_rfl) (by kernel_rfl) ?_
  conv => whnf
  refine ⟨_, Loads.all b3 (by kernel_rfl) (by rw [adC_len ha]; kernel_rfl), ?_⟩
  conv => whnf
  refine ⟨_, Loads.all b4 (by kernel_rfl) (by rw [adC_len hb]; kernel_rfl), ?_⟩
  conv => whnf
  refine (pseudo_does ha hb hp (by decide) hn).mono ?_
  rintro v w2 ⟨rfl, ho2⟩
  have how := hA.t0 ho2
  conv => whnf
  refine (part_does (hl.o how) hc (by omega)).mono ?_
  rintro v w3 ⟨rfl, ho3⟩
  conv => whnf
  refine (add_does pb.1 pb.2 pl.1 pl.2).mono ?_
  rintro v w4 ⟨rfl, rfl⟩
  conv => whnf
  exact ⟨congrArg (Value.int .u16) (by unfold wholeI; rw [hll]), how.t0 ho3⟩
structure Dg where
  sport : Int
  dport : Int
  nosum : Bool
  data : List UInt8
def dgC (d : Dg) (D : At) : List Value := [.int .i64 d.sport, .int .i64 d.dport, .bool d.nosum, .slice D.1 d.data.length D.2]
theorem one_dgC (d : Dg) (D : At) : ∀ u ∈ dgC d D, isOne u = true := one_cons rfl (one_cons rfl (one_cons rfl (one_cons rfl one_nil)))
def zeroD : Dg := ⟨0, 0, false, []⟩
def udpE (a b : Ad) (l : List UInt8) : Int :=
  if pairA a b = false then 1
  else if l.length < 8 then 20
  else if wordL l 4 ≠ l.length ∨ (l.length : Int) - 8 > mostI a.1 then 51
  else if (wordL l 6 = 0 ∧ a.1 = 6) ∨ (wordL l 6 ≠ 0 ∧ wholeI a b l ≠ 65535) then 52
  else 0
def udpP (a b : Ad) (l : List UInt8) : Dg := if udpE a b l = 0 then ⟨wordL l 0, wordL l 2, decide (wordL l 6 = 0), l.drop 8⟩ else zeroD
/-- The data of a datagram can be read. -/
def Dgs (w : World) (d : Dg) (D : At) (B : Nat) : Prop := (∃ G, Bs w G D.1 d.data.length d.data ∧ ∀ k ∈ G, B ≤ k ∧ k < w.heap.size) ∧ d.data.length ≤ D.2 ∧ D.2 ≤ 9223372036854775807
theorem udp_fail {w w' : World} {a b : Ad} {l : List UInt8} {e : Int} (he : udpE a b l = e) (h0 : e ≠ 0) (ho : Only [] w w') : ∃ D, Value.tuple ⟨[.agg ⟨dgC zeroD (none, 0)⟩, .int .i64 e]⟩ = .tuple ⟨[.agg ⟨dgC (udpP a b l) D⟩, .int .i64 (udpE a b l)]⟩ ∧ Dgs w' (udpP a b l) D w.heap.size ∧ Only [] w w' := by
  have : udpP a b l = zeroD := if_neg (by rw [he]; exact h0)
  rw [this, he]
  exact ⟨(none, 0), rfl, ⟨⟨[], Sl.nil _ _ _ _, by simp⟩, by decide, by decide⟩, ho⟩
theorem ex8 {l : List UInt8} (h : 8 ≤ l.length) : ∃ c0 c1 c2 c3 c4 c5 c6 c7 r, l = c0 :: c1 :: c2 :: c3 :: c4 :: c5 :: c6 :: c7 :: r := by
  match l, h with
  | c0 :: c1 :: c2 :: c3 :: c4 :: c5 :: c6 :: c7 :: r, _ => exact ⟨c0, c1, c2, c3, c4, c5, c6, c7, r, rfl⟩
theorem w16i (a b : UInt8) : IntKind.i64.wrap ((a.toNat : Int) * 256 + (b.toNat : Int)) = (a.toNat : Int) * 256 + (b.toNat : Int) := by
  have := u8_le a
  have := u8_le b
  exact wi_id (by omega) (by omega)
set_option maxRecDepth 100000 in
theorem udpParse_does {w : World} {a b : Ad} {G : List Nat} {A : Option Addr} {n c : Nat} {l : List UInt8} (ha : okAd a) (hb : okAd b) (hl : Bs w G A n l) (hn : n ≤ 140737488355328) (hc : n ≤ c) (hcm : c ≤ 9223372036854775807) :
    Does Tryz.prog 73 [.agg ⟨adC a⟩, .agg ⟨adC b⟩, .slice A n c] w (fun v w' => ∃ D, v = .tuple ⟨[.agg ⟨dgC (udpP a b l) D⟩, .int .i64 (udpE a b l)]⟩ ∧ Dgs w' (udpP a b l) D w.heap.size ∧ Only [] w w') := by
  have hA := ((Only.alloc (Only.refl [] w) (.cells ⟨adC a⟩ 24)).alloc (.cells ⟨adC b⟩ 24)).alloc (.cells ⟨dgC zeroD (none, 0)⟩ 61)
  have b3 := ((Blk.new w 24 ⟨adC a⟩).alloc (.cells ⟨adC b⟩ 24)).alloc (.cells ⟨dgC zeroD (none, 0)⟩ 61)
  have b4 := (Blk.new (w.alloc (.cells ⟨adC a⟩ 24)) 24 ⟨adC b⟩).alloc (.cells ⟨dgC zeroD (none, 0)⟩ 61)
  have b6 := Blk.new ((w.alloc (.cells ⟨adC a⟩ 24)).alloc (.cells ⟨adC b⟩ 24)) 61 ⟨dgC zeroD (none, 0)⟩
  have q6 : w.heap.size ≤ ((w.alloc (.cells ⟨adC a⟩ 24)).alloc (.cells ⟨adC b⟩ 24)).heap.size := ((Only.alloc (Only.refl [] w) (.cells ⟨adC a⟩ 24)).alloc (.cells ⟨adC b⟩ 24)).size
  have hll := hl.len
  have ht7 : Only [] w w := Only.refl _ _
  refine Does.enter (fn := Tryz.f73) (by kernel_rfl) rfl (by kernel_rfl) (by kernel_rfl) ?_
  conv => whnf
  refine ⟨_, Loads.all b3 (by kernel_rfl) (by rw [adC_len ha]; kernel_rfl), ?_⟩
  conv => whnf
  refine ⟨_, Loads.all b4 (by kernel_rfl) (by rw [adC_len hb]; kernel_rfl), ?_⟩
  conv => whnf
  refine (pair_does ha hb).mono ?_
  rintro v w2 ⟨rfl, ho2⟩
  have b32 := b3.only ho2 (by simp)
  have b42 := b4.only ho2 (by simp)
  have b62 := b6.only ho2 (by simp)
  have hw2 := hA.t0 ho2
  conv => whnf
  refine VIf.not (VIf.of (b := pairA a b) (fun h1 => ?_) (fun h1 => ?_))
  rotate_left
  · conv => whnf
    refine vStore.all (cs := dgC zeroD (none, 0)) b62 (by kernel_rfl) (by kernel_rfl) (one_dgC _ _) (fun wz bz hoz _ => ?_)
    conv => whnf
    refine ⟨_, Loads.all bz (by kernel_rfl) (by kernel_rfl), ?_⟩
    conv => whnf
    exact udp_fail (by unfold udpE; rw [if_pos h1]) (by decide) ((hw2).nw hoz q6)
  conv => whnf
  refine VIf.dec (fun h2 => ?_) (fun h2 => ?_)
  · have h2 : (n : Int) < 8 := h2
    conv => whnf
    refine vStore.all (cs := dgC zeroD (none, 0)) b62 (by kernel_rfl) (by kernel_rfl) (one_dgC _ _) (fun wz bz hoz _ => ?_)
    conv => whnf
    refine ⟨_, Loads.all bz (by kernel_rfl) (by kernel_rfl), ?_⟩
    conv => whnf
    exact udp_fail (by unfold udpE; rw [if_neg (by rw [h1]; decide), if_pos (by omega)]) (by decide) ((hw2).nw hoz q6)
  have h2 : ¬ (n : Int) < 8 := h2
  obtain ⟨c0, c1, c2, c3, c4, c5, c6, c7, r, rfl⟩ := ex8 (l := l) (by omega)
  have hl2 := hl.o hw2
  obtain ⟨bl, ol, rfl, -⟩ := hl2.some_ (by omega)
  have hcut := hl2.cut (lo := 0) (hi := 8) (m := c) (A' := some ⟨bl, ol, none⟩) (by omega) (by omega) (by omega) (by
    rw [if_neg (by omega)]
    show some _ = some (Addr.add ⟨bl, ol, none⟩ (0 * 1))
    rw [add_plain, Nat.zero_mul, Nat.add_zero])
  rw [List.drop_zero] at hcut
  have hcut : Bs w2 G (some ⟨bl, ol, none⟩) 8 [c0, c1, c2, c3, c4, c5, c6, c7] := hcut
  conv => whnf
  refine ⟨0, 8, c, rfl, rfl, rfl, by omega, by omega, by omega, some ⟨bl, ol, none⟩, 8, c, ?_, rfl, rfl, ?_⟩
  · rw [if_neg (by omega)]
    show some _ = some (Addr.add ⟨bl, ol, none⟩ (0 * 1))
    rw [add_plain, Nat.zero_mul, Nat.add_zero]
  conv => whnf
  refine (newReader_does hcut (by decide)).mono ?_
  rintro v w3 ⟨R, rfl, hR, ho3, hRs⟩
  conv => whnf
  refine (rU16_does hR).mono ?_
  rintro v w4 ⟨rfl, hR4, ho4⟩
  conv => whnf
  refine (rU16_does hR4).mono ?_
  rintro v w5 ⟨rfl, hR5, ho5⟩
  conv => whnf
  refine (rU16_does hR5).mono ?_
  rintro v w6 ⟨rfl, hR6, ho6⟩
  conv => whnf
  refine (rU16_does hR6).mono ?_
  rintro v w7 ⟨rfl, hR7, ho7⟩
  have hR2 : w2.heap.size ≤ R := hRs
  have ho27 : Only [] w2 w7 := (((ho3.nw ho4 hR2).nw ho5 hR2).nw ho6 hR2).nw ho7 hR2
  have hw7 := hw2.t0 ho27
  have b37 := b32.only ho27 (by simp)
  have b47 := b42.only ho27 (by simp)
  have b67 := b62.only ho27 (by simp)
  have hl7 := hl2.o ho27
  have e5 : IntKind.i64.wrap ((c4.toNat : Int) * 256 + (c5.toNat : Int)) = wordL (c0 :: c1 :: c2 :: c3 :: c4 :: c5 :: c6 :: c7 :: r) 4 := w16i c4 c5
  have ew6 : (c6.toNat : Int) * 256 + (c7.toNat : Int) = wordL (c0 :: c1 :: c2 :: c3 :: c4 :: c5 :: c6 :: c7 :: r) 6 := rfl
  generalize hck : (c6.toNat : Int) * 256 + (c7.toNat : Int) = ck at *
  have ew6 : wordL (c0 :: c1 :: c2 :: c3 :: c4 :: c5 :: c6 :: c7 :: r) 6 = ck := hck
  have ew0 : wordL (c0 :: c1 :: c2 :: c3 :: c4 :: c5 :: c6 :: c7 :: r) 0 = (c0.toNat : Int) * 256 + (c1.toNat : Int) := rfl
  have ew2 : wordL (c0 :: c1 :: c2 :: c3 :: c4 :: c5 :: c6 :: c7 :: r) 2 = (c2.toNat : Int) * 256 + (c3.toNat : Int) := rfl
  have ew8 : (c0 :: c1 :: c2 :: c3 :: c4 :: c5 :: c6 :: c7 :: r).drop 8 = r := rfl
  have hrl : r.length + 8 = n := hll
  generalize hL : c0 :: c1 :: c2 :: c3 :: c4 :: c5 :: c6 :: c7 :: r = L at *
  have hw4 := wordL_bd L 4
  have hw6 := wordL_bd L 6
  conv => whnf
  rw [e5]
  refine VIf.ne (fun h3 => ?_) (fun h3 => ?_)
  · have h3 : wordL L 4 ≠ (n : Int) := h3
    conv => whnf
    refine vStore.all (cs := dgC zeroD (none, 0)) b67 (by kernel_rfl) (by kernel_rfl) (one_dgC _ _) (fun wz bz hoz _ => ?_)
    conv => whnf
    refine ⟨_, Loads.all bz (by kernel_rfl) (by kernel_rfl), ?_⟩
    conv => whnf
    exact udp_fail (by unfold udpE; rw [if_neg (by rw [h1]; decide), if_neg (by omega), if_pos (.inl (by rw [hll]; exact h3))]) (by decide) ((hw7).nw hoz q6)
  have h3 : wordL L 4 = (n : Int) := h3
  have hn16 : n ≤ 65535 := by omega
  conv => whnf
  refine ⟨_, Loads.one (by kernel_rfl) (b37.at (i := 0) rfl), ?_⟩
  conv => whnf
  refine most_does.mono ?_
  rintro v w8 ⟨rfl, rfl⟩
  have en8 : IntKind.i64.wrap ((n : Int) - 8) = (n : Int) - 8 := wi_id (by omega) (by omega)
  conv => whnf
  rw [en8]
  refine VIf.dec (fun h4 => ?_) (fun h4 => ?_)
  · have h4 : (n : Int) - 8 > mostI a.1 := h4
    conv => whnf
    refine vStore.all (cs := dgC zeroD (none, 0)) b67 (by kernel_rfl) (by kernel_rfl) (one_dgC _ _) (fun wz bz hoz _ => ?_)
    conv => whnf
    refine ⟨_, Loads.all bz (by kernel_rfl) (by kernel_rfl), ?_⟩
    conv => whnf
    exact udp_fail (by unfold udpE; rw [if_neg (by rw [h1]; decide), if_neg (by omega), if_pos (.inr (by rw [hll]; exact h4))]) (by decide) ((hw7).nw hoz q6)
  have h4 : ¬ (n : Int) - 8 > mostI a.1 := h4
  have g4 : ¬ (wordL L 4 ≠ L.length ∨ (L.length : Int) - 8 > mostI a.1) := by
    rw [hll]
    rintro (h | h)
    · exact h h3
    · exact h4 h
  have hyes : ∀ (w9 : World), Only [] w7 w9 → udpE a b L = 0 → ∀ (K : Value → World → Prop), True := fun _ _ _ _ => trivial
  conv => whnf
  refine VIf.eq (fun h5 => ?_) (fun h5 => ?_)
  · have h5 : ck = 0 := h5
    conv => whnf
    refine ⟨_, Loads.one (by kernel_rfl) (b37.at (i := 0) rfl), ?_⟩
    conv => whnf
    refine VIf.eq (fun h6 => ?_) (fun h6 => ?_)
    · conv => whnf
      refine vStore.all (cs := dgC zeroD (none, 0)) b67 (by kernel_rfl) (by kernel_rfl) (one_dgC _ _) (fun wz bz hoz _ => ?_)
      conv => whnf
      refine ⟨_, Loads.all bz (by kernel_rfl) (by kernel_rfl), ?_⟩
      conv => whnf
      exact udp_fail (by unfold udpE; rw [if_neg (by rw [h1]; decide), if_neg (by omega), if_neg g4, if_pos (.inl ⟨ew6.trans h5, h6⟩)]) (by decide) ((hw7).nw hoz q6)
    conv => whnf
    refine VIf.ne (fun h7 => (h7 h5).elim) (fun _ => ?_)
    conv => whnf
    have hE : udpE a b L = 0 := by unfold udpE; rw [if_neg (by rw [h1]; decide), if_neg (by omega), if_neg g4, if_neg (by rw [ew6]; rintro (⟨-, h⟩ | ⟨h, -⟩); exact h6 h; exact h h5)]
    refine vStore.fresh (cs := [.int .i64 (IntKind.i64.wrap ((c0.toNat : Int) * 256 + (c1.toNat : Int))), .int .i64 (IntKind.i64.wrap ((c2.toNat : Int) * 256 + (c3.toNat : Int))), .bool (ck == 0), .slice none 0 0]) (by kernel_rfl) (by kernel_rfl) (one_cons rfl (one_cons rfl (one_cons rfl (one_cons rfl one_nil)))) (fun w10 b13 ho10 hz10 => ?_)
    rw [w16i c0 c1, w16i c2 c3, ← ew0, ← ew2] at b13
    have b610 := b67.only ho10 (by simp)
    have hl10 := hl7.o ho10
    have hw10 := (hw7).t0 ho10
    have hlt10 := b13.lt
    conv => whnf
    refine VDraw.abs fun N3 hN3 => ?_
    refine VDraw.ahead 6 (fun _ => True) (fun w' => Blk w' w7.heap.size 61 ⟨[.int .i64 (wordL L 0), .int .i64 (wordL L 2), .bool (ck == 0), .slice none 0 0]⟩) [0, 1, 2, 3, 4, 5, 6] (by kernel_rfl) (by kernel_rfl) trivial b13.drew ?_
    conv => whnf
    refine ⟨_, fun w' hw' => Loads.one (by kernel_rfl) (Blk.at (i := 3) hw'.2 rfl), ?_⟩
    conv => whnf
    refine ⟨8, n, c, rfl, rfl, rfl, by omega, by omega, by omega, if c = 8 then some ⟨bl, ol, none⟩ else some ⟨bl, ol + 8 * 1, none⟩, n - 8, c - 8, ?_, rfl, rfl, ?_⟩
    · by_cases h : c = 8
      · rw [if_pos h, if_pos h]
      · rw [if_neg h, if_neg h]
        show some _ = some (Addr.add ⟨bl, ol, none⟩ (8 * 1))
        rw [add_plain]
    have hcut8 := hl10.cut (lo := 8) (hi := n) (m := c) (A' := if c = 8 then some ⟨bl, ol, none⟩ else some ⟨bl, ol + 8 * 1, none⟩) (by omega) hc (Nat.le_refl _) (by
      by_cases h : c = 8
      · rw [if_pos h, if_pos h]
      · rw [if_neg h, if_neg h]
        show some _ = some (Addr.add ⟨bl, ol, none⟩ (8 * 1))
        rw [add_plain])
    rw [ew8, List.take_of_length_le (by omega)] at hcut8
    conv => whnf
    refine vFall.append 5 1 1 rfl (by kernel_rfl) rfl (Row.nil _ _ _ _) rfl (Bs.only (w' := w10.drew) hcut8 ((Only.refl [] w10).drew) (by simp)) (one_u8 r) (by omega) (by omega) ?_
    intro A5 c5 F5 w11 hr5 ho5 hF5
    have b1311 := b13.drew.only ho5 (by simp)
    have b611 := b610.drew.only ho5 (by simp)
    have hw11 : Only [] w w11 := hw10.drew.t0 ho5
    have hF5' : ∀ k ∈ F5, w10.heap.size ≤ k := fun k hk => by
      rcases hF5 k hk with h | h
      · cases h
      · exact h
    refine ⟨⟨trivial, fun _ => b1311⟩, ?_⟩
    conv => whnf
    refine vStore.one b1311 (by kernel_rfl) rfl (i := 3) (u := .slice none 0 0) rfl (fun b1312 ho12 => ?_)
    refine ⟨⟨trivial, fun h => Bool.noConfusion h⟩, ?_⟩
    have hr12 := hr5.only ho12 (fun k hk hm => by
      have := hF5' k hk
      obtain rfl : k = w7.heap.size := by simpa using hm
      omega)
    have hq13 : w.heap.size ≤ w7.heap.size := (hw7).size
    have hw12 : Only [] w _ := hw11.nw ho12 hq13
    have b612 := b611.only ho12 (fun hm => by
      have h3 := List.mem_singleton.1 hm
      have h4 := b67.lt
      rw [h3] at h4
      exact Nat.lt_irrefl _ h4)
    refine hN3 _ _ ?_
    have hP : udpP a b L = ⟨wordL L 0, wordL L 2, decide (wordL L 6 = 0), L.drop 8⟩ := if_pos hE
    have hdg : dgC (udpP a b L) (A5, c5) = [.int .i64 (wordL L 0), .int .i64 (wordL L 2), .bool (ck == 0), .slice A5 (0 + (n - 8)) c5] := by
      rw [hP]
      unfold dgC
      simp only [ew8, ew6]
      rw [show r.length = 0 + (n - 8) by omega]
      rfl
    conv => whnf
    refine ⟨.agg ⟨dgC (udpP a b L) (A5, c5)⟩, ?_, ?_⟩
    · rw [hdg]
      exact Loads.all b1312 (by kernel_rfl) (by kernel_rfl)
    conv => whnf
    refine vStore.all (cs := dgC (udpP a b L) (A5, c5)) b612 (by kernel_rfl) (by kernel_rfl) (one_dgC _ _) (fun wz bz hoz _ => ?_)
    conv => whnf
    refine ⟨_, Loads.all bz (by kernel_rfl) (by kernel_rfl), ?_⟩
    conv => whnf
    rw [hE]
    have hrz := hr12.only hoz (fun k hk hm => by
      have h1 := hF5' k hk
      have h2 := b610.lt
      have h3 : k = ((w.alloc (.cells ⟨adC a⟩ 24)).alloc (.cells ⟨adC b⟩ 24)).heap.size := by simpa using hm
      omega)
    refine ⟨(A5, c5), rfl, ⟨⟨F5, ?_, fun k hk => ⟨Nat.le_trans hw10.size (hF5' k hk), hrz.lt k hk⟩⟩, ?_, ?_⟩, hw12.nw hoz q6⟩
    · rw [hP]
      show Bs wz F5 A5 (L.drop 8).length (L.drop 8)
      rw [ew8, show r.length = 0 + (n - 8) by omega]
      exact Row.bs (hrz.cast (by simp))
    · rw [hP]
      show (L.drop 8).length ≤ c5
      have := hrz.le.1
      rw [ew8]
      omega
    · have := hrz.le.2
      unfold maxLen at this
      exact this
  have h5 : ck ≠ 0 := h5
  conv => whnf
  refine VIf.ne (fun _ => ?_) (fun h7 => (h5 h7).elim)
  conv => whnf
  refine ⟨_, Loads.all b37 (by kernel_rfl) (by rw [adC_len ha]; kernel_rfl), ?_⟩
  conv => whnf
  refine ⟨_, Loads.all b47 (by kernel_rfl) (by rw [adC_len hb]; kernel_rfl), ?_⟩
  conv => whnf
  refine (whole_does ha hb h1 hl7 hn16 hc).mono ?_
  rintro v w9 ⟨rfl, ho9⟩
  have b69 := b67.only ho9 (by simp)
  have hl9 := hl7.o ho9
  have hw9 := hw7.t0 ho9
  conv => whnf
  refine VIf.ne (fun h8 => ?_) (fun h8 => ?_)
  · conv => whnf
    refine vStore.all (cs := dgC zeroD (none, 0)) b69 (by kernel_rfl) (by kernel_rfl) (one_dgC _ _) (fun wz bz hoz _ => ?_)
    conv => whnf
    refine ⟨_, Loads.all bz (by kernel_rfl) (by kernel_rfl), ?_⟩
    conv => whnf
    exact udp_fail (by unfold udpE; rw [if_neg (by rw [h1]; decide), if_neg (by omega), if_neg g4, if_pos (.inr ⟨by rw [ew6]; exact h5, h8⟩)]) (by decide) ((hw9).nw hoz q6)
  conv => whnf
  have hE : udpE a b L = 0 := by unfold udpE; rw [if_neg (by rw [h1]; decide), if_neg (by omega), if_neg g4, if_neg (by rw [ew6]; rintro (⟨h, -⟩ | ⟨-, h⟩); exact h5 h; exact h h8)]
  refine vStore.fresh (cs := [.int .i64 (IntKind.i64.wrap ((c0.toNat : Int) * 256 + (c1.toNat : Int))), .int .i64 (IntKind.i64.wrap ((c2.toNat : Int) * 256 + (c3.toNat : Int))), .bool (ck == 0), .slice none 0 0]) (by kernel_rfl) (by kernel_rfl) (one_cons rfl (one_cons rfl (one_cons rfl (one_cons rfl one_nil)))) (fun w10 b13 ho10 hz10 => ?_)
  rw [w16i c0 c1, w16i c2 c3, ← ew0, ← ew2] at b13
  have b610 := b69.only ho10 (by simp)
  have hl10 := hl9.o ho10
  have hw10 := (hw9).t0 ho10
  have hlt10 := b13.lt
  conv => whnf
  refine VDraw.abs fun N3 hN3 => ?_
  refine VDraw.ahead 6 (fun _ => True) (fun w' => Blk w' w9.heap.size 61 ⟨[.int .i64 (wordL L 0), .int .i64 (wordL L 2), .bool (ck == 0), .slice none 0 0]⟩) [0, 1, 2, 3, 4, 5, 6] (by kernel_rfl) (by kernel_rfl) trivial b13.drew ?_
  conv => whnf
  refine ⟨_, fun w' hw' => Loads.one (by kernel_rfl) (Blk.at (i := 3) hw'.2 rfl), ?_⟩
  conv => whnf
  refine ⟨8, n, c, rfl, rfl, rfl, by omega, by omega, by omega, if c = 8 then some ⟨bl, ol, none⟩ else some ⟨bl, ol + 8 * 1, none⟩, n - 8, c - 8, ?_, rfl, rfl, ?_⟩
  · by_cases h : c = 8
    · rw [if_pos h, if_pos h]
    · rw [if_neg h, if_neg h]
      show some _ = some (Addr.add ⟨bl, ol, none⟩ (8 * 1))
      rw [add_plain]
  have hcut8 := hl10.cut (lo := 8) (hi := n) (m := c) (A' := if c = 8 then some ⟨bl, ol, none⟩ else some ⟨bl, ol + 8 * 1, none⟩) (by omega) hc (Nat.le_refl _) (by
    by_cases h : c = 8
    · rw [if_pos h, if_pos h]
    · rw [if_neg h, if_neg h]
      show some _ = some (Addr.add ⟨bl, ol, none⟩ (8 * 1))
      rw [add_plain])
  rw [ew8, List.take_of_length_le (by omega)] at hcut8
  conv => whnf
  refine vFall.append 5 1 1 rfl (by kernel_rfl) rfl (Row.nil _ _ _ _) rfl (Bs.only (w' := w10.drew) hcut8 ((Only.refl [] w10).drew) (by simp)) (one_u8 r) (by omega) (by omega) ?_
  intro A5 c5 F5 w11 hr5 ho5 hF5
  have b1311 := b13.drew.only ho5 (by simp)
  have b611 := b610.drew.only ho5 (by simp)
  have hw11 : Only [] w w11 := hw10.drew.t0 ho5
  have hF5' : ∀ k ∈ F5, w10.heap.size ≤ k := fun k hk => by
    rcases hF5 k hk with h | h
    · cases h
    · exact h
  refine ⟨⟨trivial, fun _ => b1311⟩, ?_⟩
  conv => whnf
  refine vStore.one b1311 (by kernel_rfl) rfl (i := 3) (u := .slice none 0 0) rfl (fun b1312 ho12 => ?_)
  refine ⟨⟨trivial, fun h => Bool.noConfusion h⟩, ?_⟩
  have hr12 := hr5.only ho12 (fun k hk hm => by
    have := hF5' k hk
    obtain rfl : k = w9.heap.size := by simpa using hm
    omega)
  have hq13 : w.heap.size ≤ w9.heap.size := (hw9).size
  have hw12 : Only [] w _ := hw11.nw ho12 hq13
  have b612 := b611.only ho12 (fun hm => by
    have h3 := List.mem_singleton.1 hm
    have h4 := b69.lt
    rw [h3] at h4
    exact Nat.lt_irrefl _ h4)
  refine hN3 _ _ ?_
  have hP : udpP a b L = ⟨wordL L 0, wordL L 2, decide (wordL L 6 = 0), L.drop 8⟩ := if_pos hE
  have hdg : dgC (udpP a b L) (A5, c5) = [.int .i64 (wordL L 0), .int .i64 (wordL L 2), .bool (ck == 0), .slice A5 (0 + (n - 8)) c5] := by
    rw [hP]
    unfold dgC
    simp only [ew8, ew6]
    rw [show r.length = 0 + (n - 8) by omega]
    rfl
  conv => whnf
  refine ⟨.agg ⟨dgC (udpP a b L) (A5, c5)⟩, ?_, ?_⟩
  · rw [hdg]
    exact Loads.all b1312 (by kernel_rfl) (by kernel_rfl)
  conv => whnf
  refine vStore.all (cs := dgC (udpP a b L) (A5, c5)) b612 (by kernel_rfl) (by kernel_rfl) (one_dgC _ _) (fun wz bz hoz _ => ?_)
  conv => whnf
  refine ⟨_, Loads.all bz (by kernel_rfl) (by kernel_rfl), ?_⟩
  conv => whnf
  rw [hE]
  have hrz := hr12.only hoz (fun k hk hm => by
    have h1 := hF5' k hk
    have h2 := b610.lt
    have h3 : k = ((w.alloc (.cells ⟨adC a⟩ 24)).alloc (.cells ⟨adC b⟩ 24)).heap.size := by simpa using hm
    omega)
  refine ⟨(A5, c5), rfl, ⟨⟨F5, ?_, fun k hk => ⟨Nat.le_trans hw10.size (hF5' k hk), hrz.lt k hk⟩⟩, ?_, ?_⟩, hw12.nw hoz q6⟩
  · rw [hP]
    show Bs wz F5 A5 (L.drop 8).length (L.drop 8)
    rw [ew8, show r.length = 0 + (n - 8) by omega]
    exact Row.bs (hrz.cast (by simp))
  · rw [hP]
    show (L.drop 8).length ≤ c5
    have := hrz.le.1
    rw [ew8]
    omega
  · have := hrz.le.2
    unfold maxLen at this
    exact this
end Go.Proofs.YtofomopdaponbaaGreatDoor
