/-
  A packet's bytes that are written over (package nat, text): addresses, ports, their sums.
-/
import Derived.Test.YtofomopdaponbaaGreatDoorZd
namespace Go.Proofs.YtofomopdaponbaaGreatDoor
open Go.RowKit
set_option linter.unusedVariables false

theorem udpS_bd {s : Int} {chs : List (Int × Int)} (hs : 0 ≤ s ∧ s ≤ 65535) (hc : ∀ c ∈ chs, okCh c) : 0 ≤ udpS s chs ∧ udpS s chs ≤ 65535 := by
  have := patchL_bd hc hs
  unfold udpS
  split <;> omega
/-- The bytes, behind a UDP sum that is patched, if there is one. -/
def udpL (l : List UInt8) (k : Nat) (chs : List (Int × Int)) : List UInt8 := if wordL l k = 0 then l else setW l k (udpS (wordL l k) chs)
def udpC (l : List UInt8) (k : Nat) (chs : List (Int × Int)) : Int × Int := if wordL l k = 0 then (0, 0) else (wordL l k, udpS (wordL l k) chs)
def udpB (l : List UInt8) (k : Nat) : Bool := decide (wordL l k ≠ 0)
theorem udpL_len (l : List UInt8) (k : Nat) (chs : List (Int × Int)) : (udpL l k chs).length = l.length := by
  unfold udpL
  split
  · rfl
  · exact setW_len _ _ _
theorem udpC_ok (l : List UInt8) (k : Nat) {chs : List (Int × Int)} (hc : ∀ c ∈ chs, okCh c) : okCh (udpC l k chs) := by
  unfold udpC
  split
  · exact ⟨by decide, by decide, by decide, by decide⟩
  · exact ⟨(wordL_bd _ _).1, (wordL_bd _ _).2, (udpS_bd (wordL_bd _ _) hc).1, (udpS_bd (wordL_bd _ _) hc).2⟩
set_option maxRecDepth 100000 in
theorem patchUDP_does {w : World} {T : Nat} {F G : List Nat} {A B : Option Addr} {c cc m head k : Nat} {l : List UInt8} {chs : List (Int × Int)} (h : Tx w T F A c l head) (hk : k + 1 < l.length) (hs : Sl w 2 G B m (chs.flatMap chC)) (hc : ∀ c ∈ chs, okCh c) (hm : m ≤ 4096) :
    Does Tryz.prog 136 [.pointer (some ⟨T, 0, none⟩), .int .i64 k, .slice B m cc] w (fun r w' => r = .tuple ⟨[.agg ⟨chC (udpC l k chs)⟩, .bool (udpB l k)]⟩ ∧ Tx w' T F A c (udpL l k chs) head ∧ Only F w w') := by
  have hA := Only.alloc (Only.refl [] w) (.cells ⟨[.int .u16 0, .int .u16 0]⟩ 188)
  have hR := Blk.new w 188 ⟨[.int .u16 0, .int .u16 0]⟩
  have h2 := h.only hA
  have hs2 := hs.o hA
  have hlt := h.lt
  have hTlt := h.blk.lt
  have hz := hA.size
  rw [World.size_alloc] at hz
  have hwb := wordL_bd l k
  have hpb := patchL_bd hc hwb
  have hll := h.hl
  refine Does.enter (fn := Tryz.f136) (by kernel_rfl) rfl (by kernel_rfl) (by kernel_rfl) ?_
  conv => whnf
  refine ⟨_, Loads.one (by kernel_rfl) (h2.blk.at (i := 0) rfl), ?_⟩
  conv => whnf
  refine (word_does h2.row.bs hk (by omega)).mono ?_
  rintro r w1 ⟨rfl, ho1⟩
  have hR1 := hR.only ho1 (by simp)
  have hw1 := hA.t0 ho1
  have h3 := h2.only ho1
  have hz1 := ho1.size
  rw [World.size_alloc] at hz1
  conv => whnf
  refine VIf.eq (fun e0 => ?_) (fun e0 => ?_)
  · conv => whnf
    refine vStore.all (cs := chC (0, 0)) hR1 (by kernel_rfl) rfl (one_chC _) (fun w2 hb2 ho2 _ => ?_)
    conv => whnf
    refine ⟨_, Loads.all hb2 (by kernel_rfl) (by kernel_rfl), ?_⟩
    conv => whnf
    refine ⟨?_, ?_, (hw1.up).nw ho2 (Nat.le_refl _)⟩
    · unfold udpC udpB
      rw [if_pos e0]
      simp [e0]
    · unfold udpL
      rw [if_pos e0]
      exact h3.far ho2 (by simp; omega) (fun k hk => by have := hlt _ hk; simp; omega)
  · conv => whnf
    refine (patch_does h3 hk (hs2.o ho1) hc hm).mono ?_
    rintro r w2 ⟨rfl, h4, ho2⟩
    have hR2 := hR1.only ho2 (fun hm => by have := hlt _ hm; omega)
    have hw2 : Only F w w2 := hw1.zf ho2
    have hz2 := ho2.size
    conv => whnf
    refine vStore.fresh (cs := chC (wordL l k, patchL (wordL l k) chs)) (by kernel_rfl) rfl (one_chC _) (fun w3 hb3 ho3 hz3 => ?_)
    have h5 := h4.only ho3
    have hR3 := hR2.only ho3 (by simp)
    have hw3 := hw2.f0 ho3
    conv => whnf
    refine VJoin.cut (α := Int) [(8, 9), (21, 33)] (fun s => [(8, .pointer (some ⟨w2.heap.size, 0, none⟩))]) (fun s w' => s = udpS (wordL l k) chs ∧ Blk w' w2.heap.size 188 ⟨chC (wordL l k, s)⟩ ∧ Blk w' w.heap.size 188 ⟨[.int .u16 0, .int .u16 0]⟩ ∧ Tx w' T F A c (setW l k s) head ∧ Only F w w') (by kernel_rfl) ?_ ?_
    · conv => whnf
      refine ⟨_, Loads.one (by kernel_rfl) (hb3.at (i := 1) rfl), ?_⟩
      conv => whnf
      refine VIf.eq (fun e1 => ?_) (fun e1 => ?_)
      · have hne : w.heap.size ≠ w2.heap.size := by omega
        have hT2 : T ≠ w2.heap.size := by omega
        have h6 := h5.far (H := [w2.heap.size]) (w' := w3.setCell ⟨w2.heap.size, 1, none⟩ (.int .u16 65535)) ((Only.refl _ w3).put (.inl (by simp))) (by simpa using hT2) (fun k hk => by have := hlt _ hk; simp; omega)
        conv => whnf
        refine vStore.one hb3 (by kernel_rfl) rfl (i := 1) (u := .int .u16 (patchL (wordL l k) chs)) rfl (fun hb4 ho4 => ?_)
        conv => whnf
        refine VDraw.tail 7 (by kernel_rfl) (by kernel_rfl) ?_
        conv => whnf
        refine ⟨_, fun w' hw' => Loads.one (by kernel_rfl) (by rw [hw']; exact h6.blk.drew.at (i := 0) rfl), ?_⟩
        conv => whnf
        refine ⟨_, fun w' hw' => Loads.one (by kernel_rfl) (by rw [hw']; exact hb4.drew.at (i := 1) rfl), ?_⟩
        conv => whnf
        refine (set_does (h6.row.drew) (by rw [setW_len]; exact hk) (by decide) (by decide)).mono ?_
        rintro r w5 ⟨rfl, hr5, ho5⟩
        conv => whnf
        have hw4 : Only F w (w3.setCell ⟨w2.heap.size, 1, none⟩ (.int .u16 65535)).drew := (hw3.nw ho4 (by omega)).drew
        refine ⟨udpS (wordL l k) chs, ⟨rfl, trivial⟩, rfl, ?_, ?_, ?_, hw4.ff ho5⟩
        · have hS : udpS (wordL l k) chs = 65535 := by unfold udpS; rw [if_pos e1]
          rw [hS]
          exact hb4.drew.only ho5 (fun hm => by have := hlt _ hm; omega)
        · exact ((hR3.far (by simpa using hne) _).drew).only ho5 (fun hm => by have := hlt _ hm; omega)
        · have hS : udpS (wordL l k) chs = 65535 := by unfold udpS; rw [if_pos e1]
          rw [hS, ← setW_setW l k (patchL (wordL l k) chs) 65535]
          exact (h6.only ((Only.refl [] _).drew)).set hr5 ho5
      · have hS : udpS (wordL l k) chs = patchL (wordL l k) chs := by unfold udpS; rw [if_neg e1]
        conv => whnf
        exact ⟨udpS (wordL l k) chs, ⟨rfl, trivial⟩, rfl, by rw [hS]; exact hb3, hR3, by rw [hS]; exact h5, hw3⟩
    · rintro s wr j ⟨rfl, hb6, hR6, h6, how⟩
      conv => whnf
      refine ⟨_, Loads.all hb6 (by kernel_rfl) (by kernel_rfl), ?_⟩
      conv => whnf
      refine vStore.all hR6 (by kernel_rfl) rfl (one_chC _) (fun w7 hb7 ho7 _ => ?_)
      conv => whnf
      refine ⟨_, Loads.all hb7 (by kernel_rfl) (by kernel_rfl), ?_⟩
      conv => whnf
      refine ⟨?_, ?_, how.nw ho7 (Nat.le_refl _)⟩
      · unfold udpC udpB
        rw [if_neg e0]
        simp [e0]
      · unfold udpL
        rw [if_neg e0]
        exact h6.far ho7 (by simp; omega) (fun k hk => by have := hlt _ hk; simp; omega)

/-- The source or destination of a packet, written over. -/
def addressL (l : List UInt8) (k : Nat) (a : Ad) : List UInt8 := setW (addrAtL l k a) 10 (patchL (wordL (addrAtL l k a) 10) (addrAtC l k a))
theorem addressL_len (l : List UInt8) (k : Nat) (a : Ad) : (addressL l k a).length = l.length := by simp [addressL, setW_len, addrAtL_len]
set_option maxRecDepth 100000 in
theorem address_does {w : World} {T : Nat} {F : List Nat} {A : Option Addr} {c head k : Nat} {l : List UInt8} {a : Ad} (h : Tx w T F A c l head) (hk : k + 3 < l.length) (h20 : 20 ≤ l.length) (ha : okAd a) :
    Does Tryz.prog 53 [.pointer (some ⟨T, 0, none⟩), .int .i64 k, .agg ⟨adC a⟩] w (fun r w' => r = .tuple ⟨[]⟩ ∧ Tx w' T F A c (addressL l k a) head ∧ Only F w w') := by
  have hA := Only.alloc (Only.refl [] w) (.cells ⟨adC a⟩ 24)
  have hb := Blk.new w 24 ⟨adC a⟩
  refine Does.enter (fn := Tryz.f53) (by kernel_rfl) rfl (by kernel_rfl) (by kernel_rfl) ?_
  conv => whnf
  refine ⟨_, Loads.all hb (by kernel_rfl) (by rw [adC_len ha]; kernel_rfl), ?_⟩
  conv => whnf
  refine (addressAt_does (h.only hA) hk ha).mono ?_
  rintro r w1 ⟨H, rfl, hr, hH, h1, ho1⟩
  conv => whnf
  refine (patch_does (k := 10) h1 (by rw [addrAtL_len]; omega) hr.sl (addrAtC_ok _ _ _) (by decide)).mono ?_
  rintro r w2 ⟨rfl, h2, ho2⟩
  conv => whnf
  exact ⟨rfl, h2, (hA.zf ho1).ff ho2⟩
/-- An address and its port, written over; the sums behind them. -/
def p16 (port : Int) : Int := port % 65536
def end3L (l : List UInt8) (k : Nat) (a : Ad) (port : Int) (head : Nat) : List UInt8 := setW (addressL l k a) (head + (k - 12) / 2) (p16 port)
def endC (l : List UInt8) (k : Nat) (a : Ad) (port : Int) (head : Nat) : List (Int × Int) := addrAtC l k a ++ [(wordL (addressL l k a) (head + (k - 12) / 2), p16 port)]
def endL (l : List UInt8) (k : Nat) (a : Ad) (port : Int) (head : Nat) : List UInt8 := udpL (end3L l k a port head) (head + 6) (endC l k a port head)
theorem endL_len (l : List UInt8) (k : Nat) (a : Ad) (port : Int) (head : Nat) : (endL l k a port head).length = l.length := by simp [endL, end3L, udpL_len, setW_len, addressL_len]
theorem endC_ok (l : List UInt8) (k : Nat) (a : Ad) (port : Int) (head : Nat) : ∀ c ∈ endC l k a port head, okCh c := by
  intro c hc
  rcases List.mem_append.1 hc with h | h
  · exact addrAtC_ok _ _ _ c h
  · obtain rfl : c = _ := by simpa using h
    exact ⟨(wordL_bd _ _).1, (wordL_bd _ _).2, by simp only [p16]; omega, by simp only [p16]; omega⟩
theorem Row.cast {w : World} {e size : Nat} {F : List Nat} {A : Option Addr} {n c : Nat} {xs ys : List Value} (h : Row w e size F A n c xs) (hx : xs = ys) : Row w e size F A n c ys := hx ▸ h
set_option maxRecDepth 100000 in
theorem end_does {w : World} {T : Nat} {F : List Nat} {A : Option Addr} {c head k : Nat} {l : List UInt8} {a : Ad} {port : Int} (h : Tx w T F A c l head) (hk : k = 12 ∨ k = 16) (hh : 20 ≤ head) (hl : head + 8 ≤ l.length) (ha : okAd a) :
    Does Tryz.prog 61 [.pointer (some ⟨T, 0, none⟩), .int .i64 k, .agg ⟨adC a⟩, .int .i64 port] w (fun r w' => r = .tuple ⟨[]⟩ ∧ Tx w' T F A c (endL l k a port head) head ∧ Only F w w') := by
  have hA := Only.alloc (Only.refl [] w) (.cells ⟨adC a⟩ 24)
  have hb := Blk.new w 24 ⟨adC a⟩
  have hlt := h.lt
  have hz := hA.size
  have hll := h.hl
  have hhl := h.hh
  have hp : 0 ≤ p16 port ∧ p16 port ≤ 65535 := by unfold p16; omega
  have hk2 : (k - 12) / 2 ≤ 2 := by omega
  refine Does.enter (fn := Tryz.f61) (by kernel_rfl) rfl (by kernel_rfl) (by kernel_rfl) ?_
  conv => whnf
  refine ⟨_, Loads.all hb (by kernel_rfl) (by rw [adC_len ha]; kernel_rfl), ?_⟩
  conv => whnf
  refine (addressAt_does (h.only hA) (by omega) ha).mono ?_
  rintro r w1 ⟨H, rfl, hr, hH, h1, ho1⟩
  have hw1 := hA.zf ho1
  conv => whnf
  refine (patch_does (k := 10) h1 (by rw [addrAtL_len]; omega) hr.sl (addrAtC_ok _ _ _) (by decide)).mono ?_
  rintro r w2 ⟨rfl, h2, ho2⟩
  have hHF : H ∉ F := fun hm => by have := hlt _ hm; omega
  have hr2 := hr.only ho2 (fun k hk => by
    obtain rfl : k = H := by simpa using hk
    exact hHF)
  have hw2 := hw1.ff ho2
  have hlen2 : (addressL l k a).length = l.length := addressL_len _ _ _
  conv => whnf
  refine VDraw.held (fun w' => Blk w' T 114 ⟨[.slice A (addressL l k a).length c, .int .i64 head]⟩) [0, 1, 2, 3, 4, 5, 6, 9, 10, 7, 8, 11, 12, 13, 14] (by kernel_rfl) (by kernel_rfl) h2.blk.drew ?_
  conv => whnf
  refine ⟨_, fun w' hw' => Loads.one (by kernel_rfl) (hw'.at (i := 1) rfl), ?_⟩
  conv => whnf
  refine (portAt_does (k := k) (by omega) (by omega)).mono ?_
  rintro r w3 ⟨rfl, rfl⟩
  refine ⟨h2.blk.drew, ?_⟩
  have e1 : IntKind.i64.wrap ((head : Int) + (((k - 12) / 2 : Nat) : Int)) = ((head + (k - 12) / 2 : Nat) : Int) := by rw [wi64]; omega
  have e2 : IntKind.u16.wrap port = p16 port := wr16 _
  conv => whnf
  rw [e1, e2]
  refine (over_does (h2.only ((Only.refl [] w2).drew)) (by show head + (k - 12) / 2 + 1 < (addressL l k a).length; omega) hp.1 hp.2).mono ?_
  rintro r w4 ⟨rfl, h4, ho4⟩
  have hlen4 : (setW (addressL l k a) (head + (k - 12) / 2) (p16 port)).length = (addressL l k a).length := setW_len _ _ _
  have hb4 := h4.blk
  have hb4' : Blk w4 T 114 ⟨[.slice A (addressL l k a).length c, .int .i64 head]⟩ := by
    have e : (setW (setW (addrAtL l k a) 10 (patchL (wordL (addrAtL l k a) 10) (addrAtC l k a))) (head + (k - 12) / 2) (p16 port)).length = (addressL l k a).length := hlen4
    rwa [e] at hb4
  refine ⟨hb4', ?_⟩
  have hw4 : Only F w w4 := (hw2.drew).ff ho4
  have hr4 := (hr2.drew).only ho4 (fun k hk => by
    obtain rfl : k = H := by simpa using hk
    exact hHF)
  conv => whnf
  refine ⟨hb4'.alloc _, ?_⟩
  conv => whnf
  refine vFall.append 188 2 4 rfl (by kernel_rfl) rfl (hr4.alloc _) rfl (Sl.new w4 188 2 (chC (wordL (addressL l k a) (head + (k - 12) / 2), p16 port)) 1 rfl) (by simp [chC, Value.oneCell']) (by decide) (by decide) ?_
  intro A5 c5 F5 w5 hr5 ho5 hF5
  refine ⟨(hb4'.alloc _).only ho5 (fun hm => by
    obtain rfl : T = H := by simpa using hm
    have := h.blk.lt
    omega), ?_⟩
  conv => whnf
  have hal : Only [] w4 (w4.alloc (.cells ⟨chC (wordL (addressL l k a) (head + (k - 12) / 2), p16 port)⟩ 188)) := (Only.refl [] w4).alloc _
  have hw5 : Only F w w5 := (hw4.f0 hal).nw ho5 (by omega)
  have h5 := (h4.only hal).far ho5 (by simp; have := h.blk.lt; omega) (fun k hk => by have := hlt _ hk; simp; omega)
  refine ⟨_, Loads.one (by kernel_rfl) (h5.blk.at (i := 1) rfl), ?_⟩
  have e6 : IntKind.i64.wrap ((head : Int) + 6) = ((head + 6 : Nat) : Int) := by rw [wi64]; omega
  conv => whnf
  rw [e6]
  refine (patchUDP_does (k := head + 6) h5 (by rw [setW_len]; show head + 6 + 1 < (addressL l k a).length; omega) ((hr5.cast (ys := (endC l k a port head).flatMap chC) (by simp [endC, addressL])).sl) (endC_ok _ _ _ _ _) (by decide)).mono ?_
  rintro r w6 ⟨rfl, h6, ho6⟩
  conv => whnf
  exact ⟨rfl, h6, hw5.ff ho6⟩

/-- The quote of an ICMP error, written over. -/
def udpAt (l : List UInt8) (head : Nat) : Nat := head + 8 + 4 * ((l.getD (head + 8) 0).toNat % 16)
def q1L (l : List UInt8) (k : Nat) (a : Ad) (head : Nat) : List UInt8 := addrAtL l (head + 8 + k) a
def q1C (l : List UInt8) (k : Nat) (a : Ad) (head : Nat) : List (Int × Int) := addrAtC l (head + 8 + k) a
def q2S (l : List UInt8) (k : Nat) (a : Ad) (head : Nat) : Int := patchL (wordL (q1L l k a head) (head + 8 + 10)) (q1C l k a head)
def q2L (l : List UInt8) (k : Nat) (a : Ad) (head : Nat) : List UInt8 := setW (q1L l k a head) (head + 8 + 10) (q2S l k a head)
def q3C (l : List UInt8) (k : Nat) (a : Ad) (port : Int) (head : Nat) : Int × Int := (wordL (q2L l k a head) (udpAt l head + (k - 12) / 2), p16 port)
def q3L (l : List UInt8) (k : Nat) (a : Ad) (port : Int) (head : Nat) : List UInt8 := setW (q2L l k a head) (udpAt l head + (k - 12) / 2) (p16 port)
def qAll (l : List UInt8) (k : Nat) (a : Ad) (port : Int) (head : Nat) : List (Int × Int) := [(wordL (q1L l k a head) (head + 8 + 10), q2S l k a head)] ++ q1C l k a head ++ [q3C l k a port head]
def qU (l : List UInt8) (k : Nat) (a : Ad) (port : Int) (head : Nat) : List (Int × Int) := q1C l k a head ++ [q3C l k a port head]
def qHas (l : List UInt8) (head : Nat) : Bool := decide (udpAt l head + 8 ≤ l.length)
def q4L (l : List UInt8) (k : Nat) (a : Ad) (port : Int) (head : Nat) : List UInt8 := if qHas l head = true then udpL (q3L l k a port head) (udpAt l head + 6) (qU l k a port head) else q3L l k a port head
def q4C (l : List UInt8) (k : Nat) (a : Ad) (port : Int) (head : Nat) : List (Int × Int) :=
  if qHas l head = true ∧ udpB (q3L l k a port head) (udpAt l head + 6) = true then qAll l k a port head ++ [udpC (q3L l k a port head) (udpAt l head + 6) (qU l k a port head)] else qAll l k a port head
def quoteL (l : List UInt8) (k : Nat) (a : Ad) (port : Int) (head : Nat) : List UInt8 := setW (q4L l k a port head) (head + 2) (patchL (wordL (q4L l k a port head) (head + 2)) (q4C l k a port head))
theorem q1L_len (l : List UInt8) (k : Nat) (a : Ad) (head : Nat) : (q1L l k a head).length = l.length := addrAtL_len _ _ _
theorem q2L_len (l : List UInt8) (k : Nat) (a : Ad) (head : Nat) : (q2L l k a head).length = l.length := by simp [q2L, setW_len, q1L_len]
theorem q3L_len (l : List UInt8) (k : Nat) (a : Ad) (port : Int) (head : Nat) : (q3L l k a port head).length = l.length := by simp [q3L, setW_len, q2L_len]
theorem q4L_len (l : List UInt8) (k : Nat) (a : Ad) (port : Int) (head : Nat) : (q4L l k a port head).length = l.length := by
  unfold q4L
  split
  · rw [udpL_len, q3L_len]
  · exact q3L_len _ _ _ _ _
theorem quoteL_len (l : List UInt8) (k : Nat) (a : Ad) (port : Int) (head : Nat) : (quoteL l k a port head).length = l.length := by simp [quoteL, setW_len, q4L_len]
theorem p16_bd (port : Int) : 0 ≤ p16 port ∧ p16 port ≤ 65535 := by unfold p16; omega
theorem q2S_bd (l : List UInt8) (k : Nat) (a : Ad) (head : Nat) : 0 ≤ q2S l k a head ∧ q2S l k a head ≤ 65535 := patchL_bd (addrAtC_ok _ _ _) (wordL_bd _ _)
theorem q3C_ok (l : List UInt8) (k : Nat) (a : Ad) (port : Int) (head : Nat) : okCh (q3C l k a port head) := ⟨(wordL_bd _ _).1, (wordL_bd _ _).2, (p16_bd _).1, (p16_bd _).2⟩
theorem qU_ok (l : List UInt8) (k : Nat) (a : Ad) (port : Int) (head : Nat) : ∀ c ∈ qU l k a port head, okCh c := by
  intro c hc
  rcases List.mem_append.1 hc with h | h
  · exact addrAtC_ok _ _ _ c h
  · obtain rfl : c = _ := by simpa using h
    exact q3C_ok _ _ _ _ _
theorem qAll_ok (l : List UInt8) (k : Nat) (a : Ad) (port : Int) (head : Nat) : ∀ c ∈ qAll l k a port head, okCh c := by
  intro c hc
  simp only [qAll, List.mem_append, List.mem_cons, List.not_mem_nil, or_false] at hc
  rcases hc with (h | h) | h
  · subst h
    exact ⟨(wordL_bd _ _).1, (wordL_bd _ _).2, (q2S_bd _ _ _ _).1, (q2S_bd _ _ _ _).2⟩
  · exact addrAtC_ok _ _ _ c h
  · subst h
    exact q3C_ok _ _ _ _ _
theorem q4C_ok (l : List UInt8) (k : Nat) (a : Ad) (port : Int) (head : Nat) : ∀ c ∈ q4C l k a port head, okCh c := by
  intro c hc
  unfold q4C at hc
  split at hc
  · rcases List.mem_append.1 hc with h | h
    · exact qAll_ok _ _ _ _ _ c h
    · obtain rfl : c = _ := by simpa using h
      exact udpC_ok _ _ (qU_ok _ _ _ _ _)
  · exact qAll_ok _ _ _ _ _ c hc
theorem q4C_len (l : List UInt8) (k : Nat) (a : Ad) (port : Int) (head : Nat) : (q4C l k a port head).length ≤ 5 := by
  unfold q4C
  split <;> simp [qAll, q1C, addrAtC]
theorem chs_len (z : List (Int × Int)) : (z.flatMap chC).length = z.length * 2 := flat_len chC_len z
theorem one_chs (z : List (Int × Int)) : ∀ u ∈ z.flatMap chC, u.oneCell' = true := by
  intro u hu
  obtain ⟨c, _, hc⟩ := List.mem_flatMap.1 hu
  simp only [chC, List.mem_cons, List.not_mem_nil, or_false] at hc
  rcases hc with rfl | rfl <;> rfl
theorem q_top {head : Nat} (h : head ≤ 140737488355328) : IntKind.i64.wrap ((head : Int) + 8) = ((head + 8 : Nat) : Int) := by rw [wi64]; omega
theorem q_udp {x : Nat} {head : Nat} (h : head ≤ 140737488355328) (hx : x ≤ 255) : IntKind.i64.wrap (((head + 8 : Nat) : Int) + IntKind.i64.wrap (4 * IntKind.i64.wrap ((x : Int).tmod 16))) = ((head + 8 + 4 * (x % 16) : Nat) : Int) := by
  have h1 : IntKind.i64.wrap ((x : Int).tmod 16) = ((x % 16 : Nat) : Int) := by
    rw [Int.tmod_eq_emod_of_nonneg (by omega), wi64]
    omega
  have h2 : IntKind.i64.wrap (4 * ((x % 16 : Nat) : Int)) = ((4 * (x % 16) : Nat) : Int) := by
    rw [wi64]
    omega
  rw [h1, h2, wi64]
  omega
theorem q_uk {n k : Nat} (h : n ≤ 2 ^ 48) (hk : k ≤ 2 ^ 48) : IntKind.i64.wrap ((n : Int) + (k : Int)) = ((n + k : Nat) : Int) := by rw [wi64]; omega
set_option maxRecDepth 100000 in
theorem quote_does {w : World} {T : Nat} {F : List Nat} {A : Option Addr} {c head k : Nat} {l : List UInt8} {a : Ad} {port : Int} (h : Tx w T F A c l head) (hk : k = 12 ∨ k = 16) (hh : 20 ≤ head) (hl : head + 28 ≤ l.length) (hu : udpAt l head + 4 ≤ l.length) (ha : okAd a) :
    Does Tryz.prog 59 [.pointer (some ⟨T, 0, none⟩), .int .i64 k, .agg ⟨adC a⟩, .int .i64 port] w (fun r w' => r = .tuple ⟨[]⟩ ∧ Tx w' T F A c (quoteL l k a port head) head ∧ Only F w w') := by
  have hA := Only.alloc (Only.refl [] w) (.cells ⟨adC a⟩ 24)
  have hb := Blk.new w 24 ⟨adC a⟩
  have hlt := h.lt
  have hTlt := h.blk.lt
  have hz := hA.size
  have hll := h.hl
  have hhl := h.hh
  have hp := p16_bd port
  have hk2 : (k - 12) / 2 ≤ 2 := by omega
  have h0 := h.only hA
  have hb8 : (l.getD (head + 8) 0).toNat ≤ 255 := by have := u8_le (l.getD (head + 8) 0); omega
  obtain ⟨b, off, rfl, -⟩ := h0.row.bs.some_ (by omega)
  refine Does.enter (fn := Tryz.f59) (by kernel_rfl) rfl (by kernel_rfl) (by kernel_rfl) ?_
  conv => whnf
  refine ⟨_, Loads.one (by kernel_rfl) (h0.blk.at (i := 1) rfl), ?_⟩
  conv => whnf
  rw [q_top (head := head) (by omega)]
  refine ⟨_, Loads.one (by kernel_rfl) (h0.blk.at (i := 0) rfl), ?_⟩
  conv => whnf
  refine ⟨_, _, rfl, head + 8, off + (head + 8), rfl, by omega, p1 _ _, ?_⟩
  conv => whnf
  refine ⟨_, Loads.one (by kernel_rfl) (h0.row.bs.ld (getD_some (by omega))), ?_⟩
  conv => whnf
  rw [show _ = ((udpAt l head : Nat) : Int) from q_udp (by omega) hb8]
  refine ⟨_, Loads.all hb (by kernel_rfl) (by rw [adC_len ha]; kernel_rfl), ?_⟩
  conv => whnf
  rw [q_uk (n := head + 8) (k := k) (by omega) (by omega)]
  refine (addressAt_does h0 (by omega) ha).mono ?_
  rintro r w1 ⟨H, rfl, hr, hH, h1, ho1⟩
  have hw1 := hA.zf ho1
  have hHlt := hr.lt H (by simp)
  have hHF : H ∉ F := fun hm => by have := hlt _ hm; omega
  conv => whnf
  rw [show IntKind.i64.wrap (((head + 8 : Nat) : Int) + 10) = ((head + 8 + 10 : Nat) : Int) from q_uk (n := head + 8) (k := 10) (by omega) (by omega)]
  refine (patch_does (k := head + 8 + 10) h1 (by rw [addrAtL_len]; omega) hr.sl (addrAtC_ok _ _ _) (by decide)).mono ?_
  rintro r w2 ⟨rfl, h2, ho2⟩
  have hz2 := ho2.size
  have hw2 := hw1.ff ho2
  have hr2 := hr.only ho2 (fun k hk => by
    obtain rfl : k = H := by simpa using hk
    exact hHF)
  conv => whnf
  refine vFall.append 188 2 4 rfl (by kernel_rfl) rfl (Row.of_blk (n := 1) (size := 2) (Blk.new w2 _ _) rfl (by decide)) rfl (hr2.sl.o ((Only.refl [] w2).alloc _)) (one_chs _) (by decide) (by decide) ?_
  intro A3 c3 F3 w3 hr3 ho3 hF3
  have hal : Only [] w2 (w2.alloc (.cells ⟨chC (wordL (addrAtL l (head + 8 + k) a) (head + 8 + 10), patchL (wordL (addrAtL l (head + 8 + k) a) (head + 8 + 10)) (addrAtC l (head + 8 + k) a))⟩ 188)) := (Only.refl [] w2).alloc _
  have hal3 : Only [] w2 w3 := (hal.up.trans ho3 (fun x hx => .inr (by
    obtain rfl : x = w2.heap.size := by simpa using hx
    exact Nat.le_refl _)) : Only [] w2 w3)
  have h3 := h2.only hal3
  have hrl3 := hr2.only hal3 (by simp)
  conv => whnf
  have hF3' : ∀ x ∈ F3, w2.heap.size ≤ x := fun x hx => (hF3 x hx).elim (fun h => by
    obtain rfl : x = w2.heap.size := by simpa using h
    exact Nat.le_refl _) (fun h => Nat.le_trans hal.size h)
  have hlt3 := hr3.lt
  have hl2 : (q2L l k a head).length = l.length := q2L_len _ _ _ _
  have hw3 : Only F w w3 := hw2.f0 hal3
  refine (portAt_does (k := k) (by omega) (by omega)).mono ?_
  rintro r w4 ⟨rfl, rfl⟩
  conv => whnf
  rw [q_uk (n := udpAt l head) (k := (k - 12) / 2) (by omega) (by omega), show IntKind.u16.wrap port = p16 port from wr16 _]
  refine (over_does (v := p16 port) (k := udpAt l head + (k - 12) / 2) h3 (by show _ < (q2L l k a head).length; omega) hp.1 hp.2).mono ?_
  rintro r w5 ⟨rfl, h5, ho5⟩
  have hF3F : ∀ x ∈ F3, x ∉ F := fun x hx hm => by
    have := hF3' x hx
    have := hlt x hm
    omega
  have hr5 := hr3.only ho5 hF3F
  have hrl5 := hrl3.only ho5 (fun k hk => by
    obtain rfl : k = H := by simpa using hk
    exact hHF)
  have hw5 := hw3.ff ho5
  conv => whnf
  refine vStore.fresh (cs := chC (q3C l k a port head)) (by kernel_rfl) rfl (one_chC _) (fun w6 hb6 ho6 _ => ?_)
  have h6 := h5.only ho6
  have hr6 := hr5.only ho6 (by simp)
  have hrl6 := hrl5.only ho6 (by simp)
  have hw6 := hw5.f0 ho6
  have hlt6 := hr6.lt
  have hHlt6 := hrl6.lt H (by simp)
  conv => whnf
  refine ⟨_, Loads.all hb6 (by kernel_rfl) (by kernel_rfl), ?_⟩
  conv => whnf
  have hal6 : Only [] w6 (w6.alloc (.cells ⟨chC (q3C l k a port head)⟩ 188)) := (Only.refl [] w6).alloc _
  refine vFall.append 188 2 4 rfl (by kernel_rfl) rfl (hr6.alloc _) rfl (Sl.new w6 188 2 (chC (q3C l k a port head)) 1 rfl) (by simp [chC, Value.oneCell']) (by decide) (by decide) ?_
  intro A7 c7 F7 w7 hr7 ho7 hF7
  have ho67 : Only F3 w6 w7 := hal6.zf ho7
  have hw7 : Only F w w7 := hw6.trans ho67 (fun x hx => .inr (by
    have := hF3' x hx
    have := hw2.size
    omega))
  have hTF3 : T ∉ F3 := fun hm => by
    have := hF3' T hm
    have := hw2.size
    omega
  have hHF3 : H ∉ F3 := fun hm => by
    have := hF3' H hm
    omega
  have h7 : Tx w7 T F (some ⟨b, off, none⟩) c (q3L l k a port head) head := h6.far ho67 hTF3 (fun x hx hm => hF3F x hm hx)
  have hrl7 := hrl6.only ho67 (fun k hk => by
    obtain rfl : k = H := by simpa using hk
    exact hHF3)
  have hb7 := hb6.only ho67 (fun hm => by
    have := hlt3 _ hm
    have := ho5.size
    omega)
  have hall7 := hr7.cast (ys := (qAll l k a port head).flatMap chC) (by simp [qAll, q2S, q1C, q1L, joinL, setSeg, chC, List.replicate])
  have hl3 : (q3L l k a port head).length = l.length := q3L_len _ _ _ _ _
  conv => whnf
  refine VJoin.cut (α := Option Addr × Nat × Nat) [(11, 12), (13, 15), (58, 82)] (fun s => [(11, .slice s.1 s.2.1 s.2.2)]) (fun s w' => (∃ G, Sl w' 2 G s.1 s.2.1 ((q4C l k a port head).flatMap chC)) ∧ Tx w' T F (some ⟨b, off, none⟩) c (q4L l k a port head) head ∧ Only F w w') (by kernel_rfl) ?_ ?_
  · conv => whnf
    refine ⟨_, Loads.one (by kernel_rfl) (h7.blk.at (i := 0) rfl), ?_⟩
    conv => whnf
    rw [show IntKind.i64.wrap ((udpAt l head : Int) + 8) = ((udpAt l head + 8 : Nat) : Int) from q_uk (n := udpAt l head) (k := 8) (by omega) (by omega)]
    have hQ : qHas l head = decide (udpAt l head + 8 ≤ l.length) := rfl
    refine VIf.dec (fun ht => ?_) (fun ht => ?_)
    · have hH8 : qHas l head = true := by
        rw [hQ]
        refine decide_eq_true ?_
        omega
      conv => whnf
      refine ⟨_, Loads.all hb7 (by kernel_rfl) (by kernel_rfl), ?_⟩
      conv => whnf
      have hal7 : Only [] w7 (w7.alloc (.cells ⟨chC (q3C l k a port head)⟩ 188)) := (Only.refl [] w7).alloc _
      refine vFall.append 188 2 4 rfl (by kernel_rfl) rfl (hrl7.alloc _) rfl (Sl.new w7 188 2 (chC (q3C l k a port head)) 1 rfl) (by simp [chC, Value.oneCell']) (by decide) (by decide) ?_
      intro A8 c8 F8 w8 hr8 ho8 hF8
      have ho78 : Only [H] w7 w8 := hal7.zf ho8
      have hw8 : Only F w w8 := hw7.nw ho78 (by omega)
      have hTH : T ∉ [H] := fun hm => by
        obtain rfl : T = H := by simpa using hm
        omega
      have h8 := h7.far ho78 hTH (fun x hx hm => by
        obtain rfl : x = H := by simpa using hm
        exact hHF hx)
      have hall8 := hall7.only ho78 (fun x hx hm => by
        obtain rfl : x = H := by simpa using hm
        rcases hF7 _ hx with hm | hm
        · exact hHF3 hm
        · have := Nat.le_trans hal6.size hm
          omega)
      have hF8w : ∀ x ∈ F8, w.heap.size ≤ x := fun x hx => (hF8 x hx).elim (fun h => by
        obtain rfl : x = H := by simpa using h
        omega) (fun h => Nat.le_trans (Nat.le_trans hw7.size hal7.size) h)
      have hF7w : ∀ x ∈ F7, w.heap.size ≤ x := fun x hx => (hF7 x hx).elim (fun h => Nat.le_trans hw2.size (hF3' x h)) (fun h => Nat.le_trans (Nat.le_trans hw6.size hal6.size) h)
      conv => whnf
      rw [show IntKind.i64.wrap ((udpAt l head : Int) + 6) = ((udpAt l head + 6 : Nat) : Int) from q_uk (n := udpAt l head) (k := 6) (by omega) (by omega)]
      refine (patchUDP_does (k := udpAt l head + 6) h8 (by omega) ((hr8.cast (ys := (qU l k a port head).flatMap chC) (by simp [qU, q1C])).sl) (qU_ok _ _ _ _ _) (by decide)).mono ?_
      rintro r w9 ⟨rfl, h9, ho9⟩
      have hw9 := hw8.ff ho9
      have hall9 := hall8.only ho9 (fun x hx hm => by
        have := hF7w x hx
        have := hlt x hm
        omega)
      conv => whnf
      refine vStore.fresh (cs := chC (udpC (q3L l k a port head) (udpAt l head + 6) (qU l k a port head))) (by kernel_rfl) rfl (one_chC _) (fun w10 hb10 ho10 _ => ?_)
      have hall10 := hall9.only ho10 (by simp)
      have hw10 := hw9.f0 ho10
      have hq4 : q4L l k a port head = udpL (q3L l k a port head) (udpAt l head + 6) (qU l k a port head) := by unfold q4L; rw [if_pos hH8]
      have h10 : Tx w10 T F (some ⟨b, off, none⟩) c (q4L l k a port head) head := by
        rw [hq4]
        exact h9.only ho10
      conv => whnf
      refine VIf.of (b := udpB (q3L l k a port head) (udpAt l head + 6)) (fun hB => ?_) (fun hB => ?_)
      · conv => whnf
        refine ⟨_, Loads.all hb10 (by kernel_rfl) (by kernel_rfl), ?_⟩
        conv => whnf
        have hal10 : Only [] w10 (w10.alloc (.cells ⟨chC (udpC (q3L l k a port head) (udpAt l head + 6) (qU l k a port head))⟩ 188)) := (Only.refl [] w10).alloc _
        refine vFall.append 188 2 4 rfl (by kernel_rfl) rfl (hall10.alloc _) rfl (Sl.new w10 188 2 (chC (udpC (q3L l k a port head) (udpAt l head + 6) (qU l k a port head))) 1 rfl) (by simp [chC, Value.oneCell']) (by decide) (by decide) ?_
        intro A11 c11 F11 w11 hr11 ho11 hF11
        have ho1011 : Only F7 w10 w11 := hal10.zf ho11
        have hT7 : T ∉ F7 := fun hm => by
          have := hF7w T hm
          omega
        conv => whnf
        refine ⟨(A11, 3 + 1 + 1, c11), ⟨rfl, trivial⟩, ⟨F11, ?_⟩, ?_, ?_⟩
        · rw [show q4C l k a port head = qAll l k a port head ++ [udpC (q3L l k a port head) (udpAt l head + 6) (qU l k a port head)] by unfold q4C; rw [if_pos ⟨hH8, hB⟩]]
          exact (hr11.cast (by simp)).sl
        · exact h10.far ho1011 hT7 (fun x hx hm => by
            have := hF7w x hm
            have := hlt x hx
            omega)
        · exact hw10.trans ho1011 (fun x hx => .inr (hF7w x hx))
      · conv => whnf
        refine ⟨(A7, 3 + 1, c7), ⟨rfl, trivial⟩, ⟨F7, ?_⟩, h10, hw10⟩
        rw [show q4C l k a port head = qAll l k a port head by unfold q4C; rw [if_neg (fun h => by simp [hB] at h)]]
        exact hall10.sl
    · have hH8 : ¬ qHas l head = true := by
        rw [hQ]
        intro hd
        have := of_decide_eq_true hd
        omega
      conv => whnf
      refine ⟨(A7, 3 + 1, c7), ⟨rfl, trivial⟩, ⟨F7, ?_⟩, ?_, hw7⟩
      · rw [show q4C l k a port head = qAll l k a port head by unfold q4C; rw [if_neg (fun h => hH8 h.1)]]
        exact hall7.sl
      · rw [show q4L l k a port head = q3L l k a port head by unfold q4L; rw [if_neg hH8]]
        exact h7
  · rintro ⟨A8, n8, c8⟩ wr j ⟨⟨G8, hs8⟩, h8, how⟩
    have hn8 := hs8.num chC_len (by decide)
    have hc8 := q4C_len l k a port head
    have hl8 : (q4L l k a port head).length = l.length := q4L_len _ _ _ _ _
    conv => whnf
    refine ⟨_, Loads.one (by kernel_rfl) (h8.blk.at (i := 1) rfl), ?_⟩
    conv => whnf
    rw [show IntKind.i64.wrap ((head : Int) + 2) = ((head + 2 : Nat) : Int) from q_uk (n := head) (k := 2) (by omega) (by omega)]
    refine (patch_does (k := head + 2) h8 (by omega) hs8 (q4C_ok _ _ _ _ _) (by omega)).mono ?_
    rintro r w9 ⟨rfl, h9, ho9⟩
    conv => whnf
    exact ⟨rfl, h9, how.ff ho9⟩
end Go.Proofs.YtofomopdaponbaaGreatDoor
