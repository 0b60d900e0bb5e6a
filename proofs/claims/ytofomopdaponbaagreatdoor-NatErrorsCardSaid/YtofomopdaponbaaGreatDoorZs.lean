/-
  NatErrors, walked.
-/
import Derived.Test.YtofomopdaponbaaGreatDoorZr
import Derived.Test.YtofomopdaponbaaGreatDoorYNen
namespace Go.Proofs.YtofomopdaponbaaGreatDoor
open Go.RowKit
set_option linter.unusedVariables false
set_option linter.unusedSimpArgs false

/-- Blocks that lie beneath and are not these. -/
def Sep (G F : List Nat) (w : World) : Prop := ∀ k ∈ G, k ∉ F ∧ k < w.heap.size
theorem Sep.go {G F F' : List Nat} {w w' : World} (h : Sep G F w) (ho : w.heap.size ≤ w'.heap.size) (hF : ∀ k ∈ F', k ∈ F ∨ w.heap.size ≤ k) : Sep G F' w' := fun k hk => by
  obtain ⟨h1, h2⟩ := h k hk
  refine ⟨fun hm => ?_, by omega⟩
  rcases hF k hm with h | h
  · exact h1 h
  · omega
theorem Sep.up {G F : List Nat} {w w' : World} (h : Sep G F w) (ho : w.heap.size ≤ w'.heap.size) : Sep G F w' := h.go ho (fun k hk => .inl hk)
/-- What a law about a nat holds on to, beside the nat. -/
structure Env (W w : World) (F FX : List Nat) (q6 q14 q15 q17 : Nat) (e : Int × Int) (cf : Cf) (d a : Ad) (X : Option Addr) (cX : Nat) (data : List UInt8) : Prop where
  b6 : Blk w q6 66 ⟨encEnd e⟩
  b14 : Blk w q14 26 ⟨cfC cf⟩
  b15 : Blk w q15 24 ⟨adC d⟩
  b17 : Blk w q17 24 ⟨adC a⟩
  x : Row w 5 1 FX X data.length cX (data.map u8)
  sep : Sep (q6 :: q14 :: q15 :: q17 :: 1 :: FX) F w
  hW : Only [] W w
  fW : ∀ k ∈ F, W.heap.size ≤ k
theorem Env.go {W w w' : World} {F F' FX : List Nat} {q6 q14 q15 q17 : Nat} {e : Int × Int} {cf : Cf} {d a : Ad} {X : Option Addr} {cX : Nat} {data : List UInt8} (h : Env W w F FX q6 q14 q15 q17 e cf d a X cX data) (ho : Only F w w') (hF : ∀ k ∈ F', k ∈ F ∨ w.heap.size ≤ k) : Env W w' F' FX q6 q14 q15 q17 e cf d a X cX data := by
  have hs := h.sep
  refine ⟨h.b6.only ho (hs _ (by simp)).1, h.b14.only ho (hs _ (by simp)).1, h.b15.only ho (hs _ (by simp)).1, h.b17.only ho (hs _ (by simp)).1, h.x.only ho (fun k hk => (hs k (by simp [hk])).1), hs.go ho.size hF, h.hW.trans ho (fun k hk => .inr (h.fW k hk)), fun k hk => ?_⟩
  rcases hF k hk with h1 | h1
  · exact h.fW k h1
  · have := h.hW.size
    omega
theorem Env.o {W w w' : World} {F FX : List Nat} {q6 q14 q15 q17 : Nat} {e : Int × Int} {cf : Cf} {d a : Ad} {X : Option Addr} {cX : Nat} {data : List UInt8} (h : Env W w F FX q6 q14 q15 q17 e cf d a X cX data) (ho : Only [] w w') : Env W w' F FX q6 q14 q15 q17 e cf d a X cX data := h.go ho.up (fun k hk => .inl hk)
/-- A block of another type is written. -/
theorem Env.side {W w w' : World} {F FX : List Nat} {q6 q14 q15 q17 q : Nat} {e : Int × Int} {cf : Cf} {d a : Ad} {X : Option Addr} {cX : Nat} {data : List UInt8} {t : TypeId} {cs : Array Value} (h : Env W w F FX q6 q14 q15 q17 e cf d a X cX data) (hq : Blk w q t cs) (ho : Only [q] w w') (h1 : 66 ≠ t) (h2 : 26 ≠ t) (h3 : 24 ≠ t) (h4 : 5 ≠ t) (hqW : W.heap.size ≤ q) : Env W w' F FX q6 q14 q15 q17 e cf d a X cX data :=
  ⟨h.b6.only ho (fun hm => h.b6.ne_ hq h1 (List.mem_singleton.1 hm)), h.b14.only ho (fun hm => h.b14.ne_ hq h2 (List.mem_singleton.1 hm)), h.b15.only ho (fun hm => h.b15.ne_ hq h3 (List.mem_singleton.1 hm)), h.b17.only ho (fun hm => h.b17.ne_ hq h3 (List.mem_singleton.1 hm)),
    h.x.only ho (fun k hk hm => h.x.ne_blk hq h4 (List.mem_singleton.1 hm ▸ hk)), h.sep.up ho.size, h.hW.nw ho hqW, h.fW⟩
/-- A list of bytes of one's own. -/
structure Own1 (w : World) (F G : List Nat) (A : Option Addr) (c : Nat) (l : List UInt8) : Prop where
  row : Row w 5 1 G A l.length c (l.map u8)
  sep : Sep G F w
theorem Own1.go {w w' : World} {F F' G : List Nat} {A : Option Addr} {c : Nat} {l : List UInt8} (h : Own1 w F G A c l) (ho : Only F w w') (hF : ∀ k ∈ F', k ∈ F ∨ w.heap.size ≤ k) : Own1 w' F' G A c l :=
  ⟨h.row.only ho (fun k hk => (h.sep k hk).1), h.sep.go ho.size hF⟩
theorem Own1.o {w w' : World} {F G : List Nat} {A : Option Addr} {c : Nat} {l : List UInt8} (h : Own1 w F G A c l) (ho : Only [] w w') : Own1 w' F G A c l := h.go ho.up (fun k hk => .inl hk)
theorem Own1.side {w w' : World} {F G : List Nat} {A : Option Addr} {c q : Nat} {l : List UInt8} {t : TypeId} {cs : Array Value} (h : Own1 w F G A c l) (hq : Blk w q t cs) (ho : Only [q] w w') (h4 : 5 ≠ t) : Own1 w' F G A c l :=
  ⟨h.row.only ho (fun k hk hm => h.row.ne_blk hq h4 (List.mem_singleton.1 hm ▸ hk)), h.sep.up ho.size⟩
theorem Own1.of {w0 w : World} {F : List Nat} {l : List UInt8} {v : Value} (h : Own w0 w 5 1 (l.map u8) v) (hF : ∀ k ∈ F, k < w0.heap.size) : ∃ A c G, v = .slice A l.length c ∧ Own1 w F G A c l ∧ Only [] w0 w := by
  obtain ⟨A, n, c, G, rfl, hr, ho, hG⟩ := h
  obtain rfl := (Row.bs hr).len
  exact ⟨A, c, G, rfl, ⟨hr, fun k hk => ⟨fun hm => by
    have h1 := hG k hk
    have h2 := hF k hm
    omega, hr.lt k hk⟩⟩, ho⟩
theorem Own1.bs {w : World} {F G : List Nat} {A : Option Addr} {c : Nat} {l : List UInt8} (h : Own1 w F G A c l) : Bs w G A l.length l := Row.bs h.row
theorem Own1.cap {w : World} {F G : List Nat} {A : Option Addr} {c : Nat} {l : List UInt8} (h : Own1 w F G A c l) : l.length ≤ c ∧ c ≤ 9223372036854775807 := ⟨h.row.le.1, by have := h.row.le.2; unfold maxLen at this; exact this⟩
/-- A nat takes bytes of one's own. -/
theorem out1_does {w : World} {T : Nat} {s : NatS} {F G : List Nat} {A : Option Addr} {c : Nat} {l : List UInt8} {now : Int} (h : St w T s F) (ok : okS s) (hl : Own1 w F G A c l) (hs : Shp w) (hsF : 1 ∉ F) (hn : l.length ≤ 140737488355328) :
    Does Tryz.prog 17 [.pointer (some ⟨T, 0, none⟩), .slice A l.length c, .int .i64 now] w (fun v w' => ∃ X cX FX F', v = .tuple ⟨[.slice X (outS s now l).2.1.length cX, .int .i64 (outS s now l).1]⟩ ∧ Own1 w' F' FX X cX (outS s now l).2.1 ∧ St w' T (outS s now l).2.2 F' ∧ Only F w w' ∧ ∀ k ∈ F', k ∈ F ∨ w.heap.size ≤ k) :=
  (out_does h ok hl.bs (fun k hk => (hl.sep k hk).1) hs hsF hn hl.cap.1 hl.cap.2).mono fun v w' ⟨X, cX, FX, F', h1, h2, h3, h4, h5, h6⟩ => ⟨X, cX, FX, F', h1, ⟨h2, fun k hk => ⟨(h6 k hk).2, h2.lt k hk⟩⟩, h3, h4, h5⟩
theorem in1_does {w : World} {T : Nat} {s : NatS} {F G : List Nat} {A : Option Addr} {c : Nat} {l : List UInt8} {now : Int} (h : St w T s F) (ok : okS s) (hl : Own1 w F G A c l) (hs : Shp w) (hsF : 1 ∉ F) (hn : l.length ≤ 140737488355328) :
    Does Tryz.prog 15 [.pointer (some ⟨T, 0, none⟩), .slice A l.length c, .int .i64 now] w (fun v w' => ∃ X cX FX F', v = .tuple ⟨[.slice X (cameS s now l).2.1.length cX, .int .i64 (cameS s now l).1]⟩ ∧ Own1 w' F' FX X cX (cameS s now l).2.1 ∧ St w' T (cameS s now l).2.2 F' ∧ Only F w w' ∧ ∀ k ∈ F', k ∈ F ∨ w.heap.size ≤ k) :=
  (in_does h ok hl.bs (fun k hk => (hl.sep k hk).1) hs hsF hn hl.cap.1 hl.cap.2).mono fun v w' ⟨X, cX, FX, F', h1, h2, h3, h4, h5, h6⟩ => ⟨X, cX, FX, F', h1, ⟨h2, fun k hk => ⟨(h6 k hk).2, h2.lt k hk⟩⟩, h3, h4, h5⟩
end Go.Proofs.YtofomopdaponbaaGreatDoor
/-
  NatErrors, walked: the law's own code.
-/
namespace Go.Proofs.YtofomopdaponbaaGreatDoor
open Go.RowKit
set_option linter.unusedVariables false
set_option linter.unusedSimpArgs false

theorem laid_thru12 {a b a1 : Ad} {sp dp p1 : Int} {data : List UInt8} {k : Nat} {l : List UInt8} (h : Laid a b sp dp data k l) (hp : 0 ≤ p1 ∧ p1 ≤ 65535) : Thru l 12 a a1 sp p1 := by
  have hP := parseP_of h.e0
  rw [h.head] at hP
  have hs := h.src
  rw [hP] at hs
  have hs : ((4, (l.drop 12).take 4 ++ z12) : Ad) = a := hs
  have hl := h.len
  have h4 : ((l.drop 12).take 4).length = 4 := by rw [List.length_take, List.length_drop]; omega
  have e : ∀ j, j + 1 < 4 → wordL a.2 j = wordL l (12 + j) := fun j hj => by
    rw [← hs]
    show wordL ((l.drop 12).take 4 ++ z12) j = _
    have := wordL_take (l := (l.drop 12).take 4 ++ z12) (k := j) (h := 4) hj
    rw [← this, List.take_left' h4, wordL_take hj, wordL_drop]
  exact ⟨.inl rfl, h.e0, h.head, by omega, h.proto, h.off, h.more, e 0 (by decide), e 2 (by decide), by
    have := h.w0
    rw [wordL_drop] at this
    exact this, hp⟩
theorem laid_thru16 {a b a1 : Ad} {sp dp p1 : Int} {data : List UInt8} {k : Nat} {l : List UInt8} (h : Laid a b sp dp data k l) (hp : 0 ≤ p1 ∧ p1 ≤ 65535) : Thru l 16 b a1 dp p1 := by
  have hP := parseP_of h.e0
  rw [h.head] at hP
  have hs := h.dst
  rw [hP] at hs
  have hs : ((4, (l.drop 16).take 4 ++ z12) : Ad) = b := hs
  have hl := h.len
  have h4 : ((l.drop 16).take 4).length = 4 := by rw [List.length_take, List.length_drop]; omega
  have e : ∀ j, j + 1 < 4 → wordL b.2 j = wordL l (16 + j) := fun j hj => by
    rw [← hs]
    show wordL ((l.drop 16).take 4 ++ z12) j = _
    have := wordL_take (l := (l.drop 16).take 4 ++ z12) (k := j) (h := 4) hj
    rw [← this, List.take_left' h4, wordL_take hj, wordL_drop]
  exact ⟨.inr rfl, h.e0, h.head, by omega, h.proto, h.off, h.more, e 0 (by decide), e 2 (by decide), by
    have := h.w2
    rw [wordL_drop] at this
    exact this, hp⟩
set_option maxHeartbeats 4000000 in
set_option maxRecDepth 100000 in
theorem natErrors_does {W : World} {B : Option Addr} {m d : Nat} {GB : List Nat} {e : Int × Int} {to kind which router : Int} {data0 : List UInt8} (hs : Shp W) (hg : 1 < W.heap.size) (hgs : Sgn W)
    (hd : Bs W GB B m data0) (hGB : ∀ k ∈ GB, k < W.heap.size) (hmd : m ≤ d) (hm : m ≤ 140737488355328) (hdm : d ≤ 9223372036854775807) :
    Does Tryz.prog 9 [.agg ⟨encEnd e⟩, .int .i64 to, .slice B m d, .int .i64 kind, .int .i64 which, .int .i64 router] W (fun v w' => v = .bool true ∧ Only [] W w') := by
  obtain ⟨eh, ep⟩ := e
  have hep := and65535n (x := ep)
  have hpt := peerP_bd to
  obtain ⟨k, hk, hk3⟩ : ∃ k : Nat, andI .i64 kind 3 = (k : Int) ∧ k ≤ 3 := ⟨(andI .i64 kind 3).toNat, by have := and3n (x := kind); omega, by have := and3n (x := kind); omega⟩
  have hA := Only.alloc (Only.refl [] W) (.cells ⟨encEnd (eh, ep)⟩ 66)
  have b6 := Blk.new W 66 ⟨encEnd (eh, ep)⟩
  have hzA := hA.size
  refine Does.enter (fn := Tryz.f9) (by kernel_rfl) rfl (by kernel_rfl) (by kernel_rfl) ?_
  conv => whnf
  refine (alive_does (hs.o hA) (Nat.lt_of_lt_of_le hg hzA)).mono ?_
  rintro v w1 ⟨rfl, ho1⟩
  conv => whnf
  refine wide_does.mono ?_
  rintro v w2 ⟨T, rfl, hT, hSt2, ho2⟩
  conv => whnf
  refine vStore.fresh (cs := cfC (wideC 9)) (by rw [cf_len (wideC_ok _)]; kernel_rfl) (by rw [cf_len (wideC_ok _)]; kernel_rfl) (one_cfC _) (fun w3 b14 ho3 hz3 => ?_)
  have hA3 := (ho1.t0 ho2).t0 ho3
  have hw3 := hA.t0 hA3
  have hSt3 := hSt2.o ho3
  have okc := wideC_ok 9
  have hTlt : T < w2.heap.size := hSt2.lt T (by simp)
  conv => whnf
  refine (short_does (k := 300) (hd.o hw3) hm hmd hdm).mono ?_
  rintro v w4 ⟨X, nX, cX, FX, rfl, hrX, ho4, hFX⟩
  obtain rfl := (Row.bs hrX).len
  have hw4 := hw3.t0 ho4
  generalize hdata : data0.take 300 = data at *
  have hdl : data.length ≤ 300 := by rw [← hdata, List.length_take]; omega
  conv => whnf
  refine (peer_does (k := to)).mono ?_
  rintro v w5 ⟨rfl, ho5⟩
  have hw5 := hw4.t0 ho5
  conv => whnf
  refine vStore.fresh (cs := adC (peerA to)) (by kernel_rfl) (by kernel_rfl) (one_adC _) (fun w6 b15 ho6 hz6 => ?_)
  have hw6 := hw5.t0 ho6
  conv => whnf
  refine (peer_does (k := router)).mono ?_
  rintro v w7 ⟨rfl, ho7⟩
  conv => whnf
  refine vStore.fresh (cs := adC (peerA router)) (by kernel_rfl) (by kernel_rfl) (one_adC _) (fun w8 b17 ho8 hz8 => ?_)
  have hw8 := (hw6.t0 ho7).t0 ho8
  have z12' := (ho1.t0 ho2).size
  have z23 := ho3.size
  have z34 := ho4.size
  have z45 := ho5.size
  have z56 := ho6.size
  have z67 := ho7.size
  have z78 := ho8.size
  have h48 := ((ho5.t0 ho6).t0 ho7).t0 ho8
  have hE : Env W w8 [T] FX W.heap.size w2.heap.size w5.heap.size w7.heap.size (eh, ep) (wideC 9) (peerA to) (peerA router) X cX data := by
    have hl6 := b6.lt
    refine ⟨b6.only ((hA3.t0 ho4).t0 h48) (by simp), b14.only (ho4.t0 h48) (by simp), b15.only (ho7.t0 ho8) (by simp), b17, hrX.only h48 (by simp), fun k hk => ?_, hw8, fun k hk => ?_⟩
    · have hXl := hrX.lt
      simp only [List.mem_cons] at hk
      rw [List.mem_singleton]
      have h1 := ho1.size
      rcases hk with rfl | rfl | rfl | rfl | rfl | hk
      · omega
      · omega
      · omega
      · omega
      · omega
      · have h2 := hFX k hk
        have h3 := hXl k hk
        omega
    · obtain rfl : k = T := by simpa using hk
      have := ho1.size
      omega
  have hSt8 := hSt3.o (ho4.t0 h48)
  clear hSt2 hSt3 b6 b14 b15 b17 hrX
  have hdt8 : T < w8.heap.size := by omega
  conv => whnf
  refine VDraw.abs fun N2 hN2 => ?_
  refine VDraw.held (fun w' => Only [] w8 w') [0, 2, 3, 5, 6, 7, 8, 1, 4, 9, 10] (by kernel_rfl) (by kernel_rfl) (Only.refl [] w8).drew ?_
  conv => whnf
  refine ⟨_, fun w' hw' => Loads.all (hE.o hw').b6 (by kernel_rfl) (by kernel_rfl), ?_⟩
  conv => whnf
  refine ⟨_, fun w' hw' => Loads.all (hE.o hw').b15 (by kernel_rfl) (by rw [adC_len (peer_ok to)]; kernel_rfl), ?_⟩
  conv => whnf
  refine ⟨_, fun w' hw' => Loads.all (hE.o hw').b6 (by kernel_rfl) (by kernel_rfl), ?_⟩
  conv => whnf
  refine (endAddr_does (h := eh) (p := ep)).mono ?_
  rintro v wa ⟨rfl, hoa⟩
  have h8a : Only [] w8 wa := ((Only.refl [] w8).drew).t0 hoa
  refine ⟨h8a, ?_⟩
  conv => whnf
  refine (endPort_does (h := eh) (p := ep)).mono ?_
  rintro v wb ⟨rfl, hob⟩
  have h8b := h8a.t0 hob
  refine ⟨h8b, ?_⟩
  conv => whnf
  rw [hk]
  have hEb := hE.o h8b
  refine (datagram_does (kind := (k : Int)) (id := 5) (host_ok eh) (peer_ok to) (pair_hp eh to) rfl (Row.bs hEb.x) (by omega) (hs.o hEb.hW) hep hpt (by decide)).mono ?_
  rintro v w9 hY
  obtain ⟨Y, cY, FY, rfl, hY, ho9⟩ := Own1.of (F := [T]) hY (fun k hk => by
    obtain rfl : k = T := by simpa using hk
    have := h8b.size
    omega)
  have hLd : Laid (hostA eh) (peerA to) (andI .i64 ep 65535) (peerP to) data k (datagramL (hostA eh) (peerA to) (andI .i64 ep 65535) (peerP to) data (k : Int) 5) := laid_of (k := k) (id := 5) (host_is4 eh) (peer_is4 to) (pair_hp eh to) hep hpt (by decide) (show data.length ≤ 65000 by omega) hk3
  generalize datagramL (hostA eh) (peerA to) (andI .i64 ep 65535) (peerP to) data (k : Int) 5 = l at *
  have hll := hLd.len
  refine ⟨h8b.t0 ho9, ?_⟩
  refine hN2 _ _ ?_
  clear hN2 N2
  have hE := hEb.o ho9
  have hSt := hSt8.o (h8b.t0 ho9)
  have hl9 := hSt.lt
  clear hSt8 hEb
  have oI := new_inv okc (wideC_may 9)
  obtain ⟨r1, I1⟩ := out_first (p := 9) hLd (host_inside eh) (peer_outside to)
  have hTh : Thru l 12 (hostA eh) (fourD 192 0 2 1) (andI .i64 ep 65535) 4000 := laid_thru12 hLd (by decide)
  obtain ⟨oe, oh, ol⟩ := thru_parsed hTh (is4_four 192 0 2 1)
  have hosrc := (end_parsed (l := l) (k := 12) (a := fourD 192 0 2 1) (port := 4000) (.inl rfl) hLd.e0 hLd.head (is4_four _ _ _ _) (by rw [hLd.dlen]; omega)).2.1
  obtain ⟨wd1, wd2, -, -, -⟩ := end_words (l := l) (k := 12) (a := fourD 192 0 2 1) (port := 4000) (.inl rfl) (by rw [hLd.dlen]; omega) (by decide)
  obtain ⟨typ, code, rest, hM, htyp, hcode, hrest⟩ := told_eq (x := andI .i64 which 7) oe oh (by omega)
  obtain ⟨o, hoo⟩ : ∃ o, endL l 12 (fourD 192 0 2 1) 4000 20 = o := ⟨_, rfl⟩
  rw [hoo] at r1 oe oh ol hM hosrc wd1 wd2
  conv => whnf
  refine (own_does hY.bs (by omega)).mono ?_
  rintro v w10 hZ
  obtain ⟨Z, cZ, FZ, rfl, hZ, ho10⟩ := Own1.of hZ hl9
  have hE := hE.o ho10
  have hY := hY.o ho10
  have hSt := hSt.o ho10
  conv => whnf
  refine (out1_does (now := 0) hSt oI.ok hZ (hs.o hE.hW) (hE.sep _ (by simp)).1 (by omega)).mono ?_
  rintro v w11 hx
  rw [r1] at hx
  obtain ⟨A, cA, FA, F1, rfl, hO, hSt, ho11, hF11⟩ := hx
  dsimp only at hO hSt
  have hE := hE.go ho11 hF11
  have hY := hY.go ho11 hF11
  clear hZ
  refine splitB.abs fun N3 hN3 => ?_
  conv => whnf
  refine hN3 _ _ ?_
  clear hN3 N3
  refine vc.abs2 rfl fun N4 hN4 => ?_
  conv => whnf
  refine hN4 _ _ ?_
  refine vc.NS (congrArg Value.bool (show ((o.length : Int) != (l.length : Int)) = false by rw [ol]; exact bne_self_eq_false _)) ?_
  clear hN4 N4
  conv => whnf
  refine (told_does hO.bs (hs.o hE.hW) (hgs.o hE.hW) oe (by omega) hO.cap.1 hO.cap.2).mono ?_
  rw [hM]
  rintro v w12 ⟨DM, GM, rfl, hBM, hGM, hcM, hmM, ho12⟩
  have hl11 := hSt.lt
  have hW12 : W.heap.size ≤ w12.heap.size := (hE.hW.t0 ho12).size
  have sGM : Sep GM F1 w12 := fun j hj => ⟨fun hm => by
    have h1 := (hGM j hj).1
    have h2 := hl11 j hm
    omega, (hGM j hj).2⟩
  have hE := hE.o ho12
  have hY := hY.o ho12
  have hO := hO.o ho12
  have hSt := hSt.o ho12
  obtain ⟨m1, hm1⟩ : ∃ m1 : Mg, (⟨4, typ, code, rest, o.take 28⟩ : Mg) = m1 := ⟨_, rfl⟩
  rw [hm1] at hBM hcM hM ⊢
  have hm28 : m1.body.length = 28 := by rw [← hm1]; show (o.take 28).length = 28; rw [List.length_take]; omega
  conv => whnf
  refine vStore.fresh (cs := mgC m1 DM) (by kernel_rfl) (by kernel_rfl) (one_mgC _ _) (fun w13 b22 ho13 hz13 => ?_)
  have hE := hE.o ho13
  have hY := hY.o ho13
  have hO := hO.o ho13
  have hSt := hSt.o ho13
  have hBM := hBM.o ho13
  have sGM := sGM.up ho13.size
  have s22 : Sep [w12.heap.size] F1 w13 := fun j hj => by
    obtain rfl : j = w12.heap.size := by simpa using hj
    exact ⟨fun hm => by have := hl11 _ hm; have := ho12.size; omega, b22.lt⟩
  have fat : fourA (peerA router) = true := by
    have h1 := pair_po router
    unfold pairA at h1
    simp only [Bool.and_eq_true, decide_eq_true_eq] at h1
    unfold fourA
    rw [h1.1.2]
    rfl
  have fout : fourA (fourD 192 0 2 1) = true := by kernel_rfl
  have okm1 : okMg (peerA router) (fourD 192 0 2 1) m1 := by
    rw [← hm1]
    refine ⟨.inl rfl, ?_, ?_, by show 0 ≤ typ ∧ typ ≤ 255; omega, hcode, hrest, by show (o.take 28).length ≤ 65507; rw [List.length_take]; omega⟩
    · exact fat
    · exact fout
  have hC1 := carried_of (m := m1) (peer_ok router) (fourD_ok 192 0 2 1) fat fout (by omega)
  obtain ⟨r2, I2⟩ := came_err (t := 1) (m := m1) I1 (by decide) (by decide) (by decide) (by decide) hTh hC1 (by rw [← hm1, hoo]) htyp hcode hrest (peer_outside router)
  have hT1 := quote_tells (k := 12) (j := 16) (S := peerA router) (T := fourD 192 0 2 1) (c := hostA eh) (typ := typ) (code := code) (rest := rest) hTh (.inl ⟨rfl, rfl⟩) (peer_ok router) (fourD_ok 192 0 2 1) fat fout (by kernel_rfl) (host_is4 eh) (by omega) hcode hrest
  rw [hoo, hm1] at hT1
  obtain ⟨R1, hR1⟩ : ∃ R1, quoteL (addressL (carriedL (peerA router) (fourD 192 0 2 1) m1) 16 (hostA eh)) 12 (hostA eh) (andI .i64 ep 65535) 20 = R1 := ⟨_, rfl⟩
  rw [hR1] at hT1 r2
  have hT1 : TellsOk R1 (peerA router) (hostA eh) l m1 := hT1
  have hlR1 : R1.length = 56 := by rw [← hR1, quoteL_len, addressL_len, hC1.len, hm28]
  have hlb1 := hC1.len
  obtain ⟨b1, hb1⟩ : ∃ b1, carriedL (peerA router) (fourD 192 0 2 1) m1 = b1 := ⟨_, rfl⟩
  rw [hb1] at r2 hlb1
  conv => whnf
  refine ⟨_, Loads.all hE.b17 (by kernel_rfl) (by rw [adC_len (peer_ok router)]; kernel_rfl), ?_⟩
  conv => whnf
  refine ⟨_, hE.b14.cfOutside okc, ?_⟩
  conv => whnf
  refine ⟨_, Loads.all b22 (by kernel_rfl) (by kernel_rfl), ?_⟩
  conv => whnf
  refine (carried_does (peer_ok router) (fourD_ok 192 0 2 1) okm1 (by rw [← hm1]) hBM (hs.o hE.hW)).mono ?_
  rw [hb1]
  rintro v w14 hb
  have hl13 := hSt.lt
  obtain ⟨P, cP, FP, rfl, hP, ho14⟩ := Own1.of hb hl13
  have hE := hE.o ho14
  have hY := hY.o ho14
  have hO := hO.o ho14
  have hSt := hSt.o ho14
  have hBM := hBM.o ho14
  have sGM := sGM.up ho14.size
  have b22 := b22.only ho14 (by simp)
  have s22 := s22.up ho14.size
  conv => whnf
  refine (in1_does (now := 1) hSt I1.ok hP (hs.o hE.hW) (hE.sep _ (by simp)).1 (by omega)).mono ?_
  rintro v w15 hx
  rw [r2] at hx
  obtain ⟨Q, cQ, FQ, F2, rfl, hQ, hSt, ho15, hF15⟩ := hx
  dsimp only at hQ hSt
  have hE := hE.go ho15 hF15
  have hY := hY.go ho15 hF15
  have hO := hO.go ho15 hF15
  have hBM := Bs.only hBM ho15 (fun j hj => (sGM j hj).1)
  have sGM := sGM.go ho15.size hF15
  have b22 := b22.only ho15 (s22 _ (by simp)).1
  have s22 := s22.go ho15.size hF15
  clear hP
  refine splitB.abs fun N3 hN3 => ?_
  conv => whnf
  refine hN3 _ _ ?_
  clear hN3 N3
  conv => whnf
  refine VDraw.abs fun N4 hN4 => ?_
  refine VDraw.held (fun w' => Only [] w15 w') [0, 1, 2, 3, 4, 5, 6, 7, 8, 9, 11, 12, 10, 13, 14, 15] (by kernel_rfl) (by kernel_rfl) (Only.refl [] w15).drew ?_
  conv => whnf
  refine ⟨_, fun w' hw' => Loads.all (hE.o hw').b17 (by kernel_rfl) (by rw [adC_len (peer_ok router)]; kernel_rfl), ?_⟩
  conv => whnf
  refine ⟨_, fun w' hw' => Loads.all (hE.o hw').b6 (by kernel_rfl) (by kernel_rfl), ?_⟩
  conv => whnf
  refine ⟨_, fun w' hw' => Loads.all (b22.only hw' (by simp)) (by kernel_rfl) (by kernel_rfl), ?_⟩
  conv => whnf
  refine (endAddr_does (h := eh) (p := ep)).mono ?_
  rintro v wa ⟨rfl, hoa⟩
  have h5a : Only [] w15 wa := ((Only.refl [] w15).drew).t0 hoa
  refine ⟨h5a, ?_⟩
  conv => whnf
  refine (tells_does hT1 (hQ.o h5a).bs (by omega) (hY.o h5a).bs hY.cap.1 hY.cap.2 (peer_ok router) (host_ok eh) (hs.o (hE.o h5a).hW)).mono ?_
  rintro v w16 ⟨rfl, hob⟩
  have h516 := h5a.t0 hob
  refine ⟨h516, ?_⟩
  conv => whnf
  refine hN4 _ _ ?_
  refine vc.NS rfl ?_
  clear hN4 N4 hQ
  have hE := hE.o h516
  have hO := hO.o h516
  have hSt := hSt.o h516
  have b22 := b22.only h516 (by simp)
  have s22 := s22.up h516.size
  conv => whnf
  refine (own_does hO.bs (by omega)).mono ?_
  rintro v w17 hZ
  obtain ⟨Z, cZ, FZ, rfl, hZ, ho17⟩ := Own1.of hZ hSt.lt
  have hE := hE.o ho17
  have hO := hO.o ho17
  have hSt := hSt.o ho17
  have b22 := b22.only ho17 (by simp)
  have s22 := s22.up ho17.size
  conv => whnf
  refine (parse_does hZ.bs (hs.o hE.hW) (by omega) hZ.cap.1 hZ.cap.2).mono ?_
  rintro v w18 ⟨OP, DP, rfl, hp18, ho18⟩
  have hE := hE.o ho18
  have hSt := hSt.o ho18
  have b22 := b22.only ho18 (by simp)
  have s22 := s22.up ho18.size
  have hokp := hp18.ok
  have hlp := pk_len (O := OP) (D := DP) hokp
  rw [oe]
  conv => whnf
  refine vStore.fresh (cs := pkC (parseP o) OP DP) (by rw [hlp]; kernel_rfl) (by rw [hlp]; kernel_rfl) (one_pkC _ _ _) (fun w19 b26 ho19 hz19 => ?_)
  have hE := hE.o ho19
  have hSt := hSt.o ho19
  have b22 := b22.only ho19 (by simp)
  have s22 := s22.up ho19.size
  have hp19 := hp18.o ho19
  obtain ⟨GD, hGD, -⟩ := hp19.data
  have hdl0 : (parseP o).data.length = 8 + data.length := by rw [hosrc, wd1, hLd.dlen]
  have hw0 : wordL (parseP o).data 0 = 4000 := by rw [hosrc]; exact wd2
  refine splitB.abs fun N3 hN3 => ?_
  conv => whnf
  refine hN3 _ _ ?_
  clear hN3 N3
  refine vc.abs2 rfl fun N4 hN4 => ?_
  conv => whnf
  refine ⟨_, Loads.one (by kernel_rfl) (b26.pkData hokp), ?_⟩
  conv => whnf
  refine hN4 _ _ ?_
  refine vc.NS (congrArg Value.bool (decide_eq_false (show ¬ ((parseP o).data.length : Int) < 8 by omega))) ?_
  clear hN4 N4
  obtain ⟨bD, oD, eD, -⟩ := hGD.some_ (by omega)
  conv => whnf
  refine VDraw.abs fun N5 hN5 => ?_
  refine VDraw.held (fun w' => Only [] w19 w') [0, 1, 2, 3, 4, 5, 6, 7, 8, 9, 10, 11, 12, 13, 14, 15, 16, 17, 18, 19, 20] (by kernel_rfl) (by kernel_rfl) (Only.refl [] w19).drew ?_
  conv => whnf
  refine ⟨_, fun w' hw' => Loads.all (hE.o hw').b15 (by kernel_rfl) (by rw [adC_len (peer_ok to)]; kernel_rfl), ?_⟩
  conv => whnf
  refine ⟨_, fun w' hw' => (hE.o hw').b14.cfOutside okc, ?_⟩
  conv => whnf
  refine ⟨_, fun w' hw' => Loads.one (by kernel_rfl) ((b26.only hw' (by simp)).pkData hokp), ?_⟩
  rw [eD]
  rw [eD] at hGD
  conv => whnf
  refine ⟨_, _, rfl, 0, oD + 0, rfl, by omega, p1 _ _, ?_⟩
  conv => whnf
  refine ⟨_, fun w' hw' => Loads.one (by kernel_rfl) (Bs.ld (hGD.o hw') (getD_some (by omega))), ?_⟩
  conv => whnf
  refine ⟨_, fun w' hw' => Loads.one (by kernel_rfl) ((b26.only hw' (by simp)).pkData hokp), ?_⟩
  rw [eD]
  conv => whnf
  refine ⟨_, _, rfl, 1, oD + 1, rfl, by omega, p1 _ _, ?_⟩
  conv => whnf
  refine ⟨_, fun w' hw' => Loads.one (by kernel_rfl) (Bs.ld (hGD.o hw') (getD_some (by omega))), ?_⟩
  have eW : orI .i64 (IntKind.i64.wrap (IntKind.i64.wrap (((parseP o).data.getD 0 0).toNat : Int) * pw 8 .i64)) (IntKind.i64.wrap (((parseP o).data.getD 1 0).toNat : Int)) = 4000 := or_word64.trans hw0
  conv => whnf
  rw [eW, hk]
  have h19d : Only [] w19 w19.drew := (Only.refl [] w19).drew
  have hEd := hE.o h19d
  refine (datagram_does (kind := (k : Int)) (id := 6) (peer_ok to) (fourD_ok 192 0 2 1) (pair_po to) rfl (Row.bs hEd.x) (by omega) (hs.o hEd.hW) hpt (by decide) (by decide)).mono ?_
  rintro v w20 hr
  have hl19 := hSt.lt
  obtain ⟨U, cU, FU, rfl, hU, ho20⟩ := Own1.of hr hl19
  have hLr : Laid (peerA to) (fourD 192 0 2 1) (peerP to) 4000 data k (datagramL (peerA to) (fourD 192 0 2 1) (peerP to) 4000 data (k : Int) 6) := laid_of (k := k) (id := 6) (peer_is4 to) (is4_four 192 0 2 1) (pair_po to) hpt (by decide) (by decide) (show data.length ≤ 65000 by omega) hk3
  generalize datagramL (peerA to) (fourD 192 0 2 1) (peerP to) 4000 data (k : Int) 6 = rl at *
  have hlr := hLr.len
  have h1920 := h19d.t0 ho20
  refine ⟨h1920, ?_⟩
  refine hN5 _ _ ?_
  clear hN5 N5 b26 hGD hO hp19 hp18
  have hE := hE.o h1920
  have hSt := hSt.o h1920
  have b22 := b22.only h1920 (by simp)
  have s22 := s22.up h1920.size
  obtain ⟨r3, I3⟩ := came_one (t := 2) I2 (by decide) (by decide) (by decide) (by decide) hLr (peer_outside to)
  have hTr : Thru rl 16 (fourD 192 0 2 1) (hostA eh) 4000 (andI .i64 ep 65535) := laid_thru16 hLr hep
  obtain ⟨ce, ch, cl⟩ := thru_parsed hTr (host_is4 eh)
  obtain ⟨typ2, code2, rest2, hM2, htyp2, hcode2, hrest2⟩ := told_eq (x := andI .i64 (IntKind.i64.wrap (which + 1)) 7) ce ch (by omega)
  obtain ⟨cm, hcm2⟩ : ∃ cm, endL rl 16 (hostA eh) (andI .i64 ep 65535) 20 = cm := ⟨_, rfl⟩
  rw [hcm2] at r3 ce ch cl hM2
  conv => whnf
  refine (own_does hU.bs (by omega)).mono ?_
  rintro v w21 hr
  obtain ⟨U2, cU2, FU2, rfl, hU2, ho21⟩ := Own1.of hr hSt.lt
  have hE := hE.o ho21
  have hU := hU.o ho21
  have hSt := hSt.o ho21
  have b22 := b22.only ho21 (by simp)
  have s22 := s22.up ho21.size
  conv => whnf
  refine (in1_does (now := 2) hSt I2.ok hU2 (hs.o hE.hW) (hE.sep _ (by simp)).1 (by omega)).mono ?_
  rintro v w22 hx
  rw [r3] at hx
  obtain ⟨V, cV, FV, F3, rfl, hV, hSt, ho22, hF22⟩ := hx
  dsimp only at hV hSt
  have hE := hE.go ho22 hF22
  have hU := hU.go ho22 hF22
  have b22 := b22.only ho22 (s22 _ (by simp)).1
  have s22 := s22.go ho22.size hF22
  clear hU2
  conv => whnf
  refine (told_does hV.bs (hs.o hE.hW) (hgs.o hE.hW) ce (by omega) hV.cap.1 hV.cap.2).mono ?_
  rw [hM2]
  rintro v w23 ⟨D2, G2, rfl, hB2, hG2, hc2, hm2', ho23⟩
  have hl22 := hSt.lt
  have q22w := (s22 w12.heap.size (by simp)).2
  have sG2 : Sep G2 F3 w23 := fun j hj => ⟨fun hm => by
    have h1 := (hG2 j hj).1
    have h2 := hl22 j hm
    omega, (hG2 j hj).2⟩
  have hE := hE.o ho23
  have hU := hU.o ho23
  have hSt := hSt.o ho23
  have s22 := s22.up ho23.size
  have b22 := b22.only ho23 (by simp)
  obtain ⟨m2, hm2⟩ : ∃ m2 : Mg, (⟨4, typ2, code2, rest2, cm.take 28⟩ : Mg) = m2 := ⟨_, rfl⟩
  rw [hm2] at hB2 hc2 hM2 ⊢
  have hm228 : m2.body.length = 28 := by rw [← hm2]; show (cm.take 28).length = 28; rw [List.length_take]; omega
  conv => whnf
  have q22lt := (s22 w12.heap.size (by simp)).2
  refine vStore.all (cs := mgC m2 D2) b22 (by kernel_rfl) (by kernel_rfl) (one_mgC _ _) (fun w24 b22' ho24 hz24 => ?_)
  have hWq : W.heap.size ≤ w12.heap.size := hW12
  have hE := hE.side b22 ho24 (by decide) (by decide) (by decide) (by decide) hWq
  have hU := hU.side b22 ho24 (by decide)
  have hSt := hSt.only ho24 (fun j hj hm => (s22 w12.heap.size (by simp)).1 (List.mem_singleton.1 hm ▸ hj))
  have hB2 := Bs.only hB2 ho24 (fun j hj hm => by
    have h1 := (hG2 j hj).1
    have h2 := List.mem_singleton.1 hm
    omega)
  have sG2 := sG2.up ho24.size
  have s22 := s22.up ho24.size
  have b22 := b22'
  have fin : fourA (fourD 10 9 9 9) = true := by kernel_rfl
  have fto : fourA (peerA to) = true := by
    have h1 := pair_po to
    unfold pairA at h1
    simp only [Bool.and_eq_true, decide_eq_true_eq] at h1
    unfold fourA
    rw [h1.1.2]
    rfl
  have okm2 : okMg (fourD 10 9 9 9) (peerA to) m2 := by
    rw [← hm2]
    refine ⟨.inl rfl, ?_, ?_, by show 0 ≤ typ2 ∧ typ2 ≤ 255; omega, hcode2, hrest2, by show (cm.take 28).length ≤ 65507; rw [List.length_take]; omega⟩
    · exact fin
    · exact fto
  have hC2 := carried_of (m := m2) (fourD_ok 10 9 9 9) (peer_ok to) fin fto (by omega)
  have r4 := out_err (t := 3) (m := m2) I3 (by decide) (by decide) (by decide) (by decide) hTr (host_is4 eh) hC2 (by rw [← hm2, hcm2]) htyp2 hcode2 hrest2 (by kernel_rfl) (peer_outside to)
  have hT2 := quote_tells (k := 16) (j := 12) (S := fourD 10 9 9 9) (T := peerA to) (c := fourD 192 0 2 1) (typ := typ2) (code := code2) (rest := rest2) hTr (.inr ⟨rfl, rfl⟩) (fourD_ok 10 9 9 9) (peer_ok to) fin fto fout (is4_four 192 0 2 1) (by omega) hcode2 hrest2
  rw [hcm2, hm2] at hT2
  obtain ⟨R2, hR2⟩ : ∃ R2, quoteL (addressL (carriedL (fourD 10 9 9 9) (peerA to) m2) 12 (fourD 192 0 2 1)) 16 (fourD 192 0 2 1) 4000 20 = R2 := ⟨_, rfl⟩
  rw [hR2] at hT2 r4
  have hT2 : TellsOk R2 (fourD 192 0 2 1) (peerA to) rl m2 := hT2
  have hlR2 : R2.length = 56 := by rw [← hR2, quoteL_len, addressL_len, hC2.len, hm228]
  have hlb2 := hC2.len
  obtain ⟨b2, hb2⟩ : ∃ b2, carriedL (fourD 10 9 9 9) (peerA to) m2 = b2 := ⟨_, rfl⟩
  rw [hb2] at r4 hlb2
  clear hC2
  refine splitB.abs fun N3 hN3 => ?_
  conv => whnf
  refine hN3 _ _ ?_
  clear hN3 N3
  conv => whnf
  refine VDraw.abs fun N6 hN6 => ?_
  refine VDraw.held (fun w' => Blk w' w5.heap.size 24 ⟨adC (peerA to)⟩ ∧ Blk w' w12.heap.size 93 ⟨mgC m2 D2⟩) [0, 2, 3, 1, 4, 5, 6, 7, 9, 8, 10] (by kernel_rfl) (by kernel_rfl) ⟨hE.b15.drew, b22.drew⟩ ?_
  conv => whnf
  refine ⟨_, fun w' hw' => Loads.all hw'.1 (by kernel_rfl) (by rw [adC_len (peer_ok to)]; kernel_rfl), ?_⟩
  conv => whnf
  refine ⟨_, fun w' hw' => Loads.all hw'.2 (by kernel_rfl) (by kernel_rfl), ?_⟩
  conv => whnf
  refine (four_does' (a := 10) (b := 9) (c := 9) (d := 9)).mono ?_
  rintro v w25 ⟨rfl, ho25⟩
  have h2425 : Only [] w24 w25 := (Only.refl [] w24).drew.t0 ho25
  have hE := hE.o h2425
  have hU := hU.o h2425
  have hSt := hSt.o h2425
  have hB2 := Bs.o hB2 h2425
  have sG2 := sG2.up h2425.size
  have b22 := b22.only h2425 (by simp)
  have s22 := s22.up h2425.size
  refine ⟨⟨hE.b15, b22⟩, ?_⟩
  conv => whnf
  refine (carried_does (fourD_ok 10 9 9 9) (peer_ok to) okm2 (by rw [← hm2]) hB2 (hs.o hE.hW)).mono ?_
  rw [hb2]
  rintro v w26 hb
  obtain ⟨P, cP, FP, rfl, hP, ho26⟩ := Own1.of hb hSt.lt
  have hE := hE.o ho26
  have hU := hU.o ho26
  have hSt := hSt.o ho26
  have b22 := b22.only ho26 (by simp)
  have s22 := s22.up ho26.size
  refine ⟨⟨hE.b15, b22⟩, ?_⟩
  conv => whnf
  refine (out1_does (now := 3) hSt I3.ok hP (hs.o hE.hW) (hE.sep _ (by simp)).1 (by omega)).mono ?_
  rintro v w27 hx
  rw [r4] at hx
  obtain ⟨K, cK, FK, F4, rfl, hK, hSt, ho27, hF27⟩ := hx
  dsimp only at hK hSt
  have hE := hE.go ho27 hF27
  have hU := hU.go ho27 hF27
  have b22 := b22.only ho27 (s22 w12.heap.size (by simp)).1
  refine ⟨⟨hE.b15, b22⟩, ?_⟩
  conv => whnf
  refine hN6 _ _ ?_
  clear hN6 N6
  conv => whnf
  refine ⟨_, hE.b14.cfOutside okc, ?_⟩
  conv => whnf
  refine ⟨_, Loads.all hE.b15 (by kernel_rfl) (by rw [adC_len (peer_ok to)]; kernel_rfl), ?_⟩
  conv => whnf
  refine ⟨_, Loads.all b22 (by kernel_rfl) (by kernel_rfl), ?_⟩
  conv => whnf
  refine (tells_does hT2 hK.bs (by omega) hU.bs hU.cap.1 hU.cap.2 (fourD_ok 192 0 2 1) (peer_ok to) (hs.o hE.hW)).mono ?_
  rintro v w28 ⟨rfl, ho28⟩
  conv => whnf
  exact ⟨rfl, hE.hW.t0 ho28⟩
end Go.Proofs.YtofomopdaponbaaGreatDoor
