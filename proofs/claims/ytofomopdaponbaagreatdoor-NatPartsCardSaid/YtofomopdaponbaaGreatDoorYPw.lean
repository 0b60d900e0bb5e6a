/-
  NatParts: the walk (UNDER WAY).
-/
import Derived.Test.YtofomopdaponbaaGreatDoorZaj
import Derived.Test.YtofomopdaponbaaGreatDoorZah
import Derived.Test.YtofomopdaponbaaGreatDoorZae
import Derived.Test.YtofomopdaponbaaGreatDoorYNwd
import Derived.Test.YtofomopdaponbaaGreatDoorYNdg
import Derived.Test.YtofomopdaponbaaGreatDoorZh
import Derived.Test.YtofomopdaponbaaGreatDoorZo
import Derived.Test.YtofomopdaponbaaGreatDoorYNen
namespace Go.Proofs.YtofomopdaponbaaGreatDoor
open Go.RowKit
set_option linter.unusedVariables false
set_option linter.unusedSimpArgs false

set_option maxRecDepth 100000 in
theorem wi_u8l {n : Nat} (h : n < 256) : IntKind.u8.wrap (n : Int) = ((UInt8.ofNat n).toNat : Int) := by
  have : ∀ n : Fin 256, IntKind.u8.wrap ((n : Nat) : Int) = ((UInt8.ofNat (n : Nat)).toNat : Int) := by decide
  exact this ⟨n, h⟩
theorem Row.castn {w : World} {e size : Nat} {F : List Nat} {A : Option Addr} {n m c : Nat} {xs : List Value} (h : Row w e size F A n c xs) (hn : n = m) : Row w e size F A m c xs := hn ▸ h
theorem pkP_setId (x : Pl) (v : Int) : pkP ⟨{ x.p with id := v }, x.O, x.D⟩ = (pkP x).set 39 (.int .u32 v) := by
  have h1 := adP_len x.p.src
  have h2 := adP_len x.p.dst
  unfold pkP
  rw [List.set_append_right _ _ (by simp [pkH]), List.set_append_right _ _ (by rw [h1]; simp [pkH]), List.set_append_right _ _ (by rw [h1, h2]; simp [pkH]), h1, h2]
  rfl
/-- What lies about during the whole walk. -/
structure PE (q6 q12 q13 : Nat) (eh ep to : Int) (FX : List Nat) (Y : Option Addr) (c : Nat) (l : List UInt8) (w : World) : Prop where
  e : Blk w q6 66 ⟨encEnd (eh, ep)⟩
  cf : Blk w q12 26 ⟨cfC (wideC 9)⟩
  d : Blk w q13 24 ⟨adC (peerA to)⟩
  x : Row w 5 1 FX Y l.length c (l.map u8)
def wayO (way : Int) : Int := if way = 1 then 4000 else 0
def notO (eh to : Int) : Nt := ⟨⟨4, hostA eh, peerA to, 17, 77⟩, hostA eh, 0⟩
def mapO (eh ep : Int) : Nm := ⟨hostA eh, andI .i64 ep 65535, 4000, 0⟩
def WS (eh ep to : Int) (way : Int) (s : NatS) : Prop := (way = 0 ∧ s = nS [] [] []) ∨ (way = 1 ∧ s = nS [mapO eh ep] [notO eh to] []) ∨ way = 2
/-- What holds at each turn of a loop: a nat lies at T, its blocks are F; those of H are written too, and those of L may be; R0 is about other blocks than all these, R about other blocks than F and H. -/
structure PO (W : World) (T : Nat) (R0 : World → Prop) (L : List Nat) (R : World → Prop) (s : NatS) (F H : List Nat) (w : World) : Prop where
  st : St w T s F
  hF : ∀ k ∈ F, W.heap.size ≤ k
  hH : ∀ k ∈ H, W.heap.size ≤ k ∧ k < w.heap.size ∧ k ∉ F
  hL : ∀ k ∈ L, W.heap.size ≤ k ∧ k < w.heap.size ∧ k ∉ F
  o : Only [] W w
  k : Keeps (F ++ H) w R
  k0 : Keeps (F ++ (H ++ L)) w R0
section
variable {W w w' : World} {T : Nat} {R0 R R' : World → Prop} {L : List Nat} {s s' : NatS} {F F' H H' : List Nat}
theorem grow_front {F F' H : List Nat} {n : Nat} (hF : ∀ k ∈ F', k ∈ F ∨ n ≤ k) : ∀ k ∈ F' ++ H, k ∈ F ++ H ∨ n ≤ k := fun k hk => by
  rcases List.mem_append.1 hk with hk | hk
  · exact (hF k hk).imp (List.mem_append_left _) id
  · exact .inl (List.mem_append_right _ hk)
theorem grow_back {F F' H : List Nat} {n : Nat} (hF : ∀ k ∈ F', k ∈ F ∨ n ≤ k) : ∀ k ∈ H ++ F', k ∈ H ++ F ∨ n ≤ k := fun k hk => by
  rcases List.mem_append.1 hk with hk | hk
  · exact .inl (List.mem_append_left _ hk)
  · exact (hF k hk).imp (List.mem_append_right _) id
theorem Only.left (ho : Only F w w') : Only (F ++ H) w w' := ho.mono (fun k hk => .inl (List.mem_append_left _ hk))
theorem Only.right (ho : Only F w w') : Only (H ++ F) w w' := ho.mono (fun k hk => .inl (List.mem_append_right _ hk))
theorem PO.go (h : PO W T R0 L R s F H w) (ho : Only F w w') (hs : St w' T s' F') (hF : ∀ k ∈ F', k ∈ F ∨ w.heap.size ≤ k) : PO W T R0 L R s' F' H w' :=
  ⟨hs, fun k hk => (hF k hk).elim (h.hF k) (fun h2 => Nat.le_trans h.o.size h2), fun k hk => ⟨(h.hH k hk).1, Nat.lt_of_lt_of_le (h.hH k hk).2.1 ho.size, fun hm => (hF k hm).elim (h.hH k hk).2.2 (fun h2 => by have := (h.hH k hk).2.1; omega)⟩,
    fun k hk => ⟨(h.hL k hk).1, Nat.lt_of_lt_of_le (h.hL k hk).2.1 ho.size, fun hm => (hF k hm).elim (h.hL k hk).2.2 (fun h2 => by have := (h.hL k hk).2.1; omega)⟩,
    h.o.trans ho (fun k hk => .inr (h.hF k hk)), h.k.go ho.left (grow_front hF), h.k0.go ho.left (grow_front hF)⟩
theorem PO.on (h : PO W T R0 L R s F H w) (ho : Only [] w w') : PO W T R0 L R s F H w' := h.go ho.up (h.st.o ho) (fun k hk => .inl hk)
theorem PO.app (h : PO W T R0 L R s F H w) (hd : (H' = H ∧ Only H w w') ∨ (Only [] w w' ∧ ∀ k ∈ H', w.heap.size ≤ k)) (hl : ∀ k ∈ H', k < w'.heap.size) : PO W T R0 L R s F H' w' := by
  have hst := h.st.lt
  have ho : Only H w w' := hd.elim (fun h => h.2) (fun h => h.1.up)
  have hH : ∀ k ∈ H', k ∈ H ∨ w.heap.size ≤ k := hd.elim (fun h k hk => .inl (h.1 ▸ hk)) (fun h k hk => .inr (h.2 k hk))
  refine ⟨h.st.only ho (fun k hk hm => (h.hH k hm).2.2 hk), h.hF, fun k hk => ⟨(hH k hk).elim (fun h2 => (h.hH k h2).1) (fun h2 => Nat.le_trans h.o.size h2), hl k hk, fun hm => ?_⟩, fun k hk => ⟨(h.hL k hk).1, Nat.lt_of_lt_of_le (h.hL k hk).2.1 ho.size, (h.hL k hk).2.2⟩,
    h.o.trans ho (fun k hk => .inr (h.hH k hk).1), h.k.go ho.right (grow_back hH), h.k0.go (ho.left.right) (grow_back (grow_front hH))⟩
  rcases hH k hk with h2 | h2
  · exact (h.hH k h2).2.2 hm
  · have := hst k hm
    omega
theorem PO.with (h : PO W T R0 L R s F H w) (hk : Keeps (F ++ H) w R') : PO W T R0 L (fun w' => R w' ∧ R' w') s F H w := ⟨h.st, h.hF, h.hH, h.hL, h.o, h.k.and hk, h.k0⟩
theorem PO.mono (h : PO W T R0 L R s F H w) (hk : ∀ w', R w' → R' w') : PO W T R0 L R' s F H w := ⟨h.st, h.hF, h.hH, h.hL, h.o, h.k.mono hk, h.k0⟩
/-- At the end the blocks of L are written. -/
theorem PO.fin (h : PO W T R0 L R s F H w) (ho : Only L w w') : PO W T R0 [] (fun _ => True) s F [] w' :=
  ⟨h.st.only ho (fun k hk hm => (h.hL k hm).2.2 hk), h.hF, by simp, by simp, h.o.trans ho (fun k hk => .inr (h.hL k hk).1), fun _ _ => trivial, h.k0.go (ho.right.right) (fun k hk => .inl (List.mem_append_left _ (by simpa using hk)))⟩
end

theorem PO.append {W w w' : World} {T B : Nat} {R0 R : World → Prop} {L : List Nat} {s : NatS} {F H H' : List Nat} {z : List Pl} {x : Pl} (h : PO W T R0 L (fun w' => R w' ∧ ∀ x ∈ z, PlOk w' 0 [] x) s F H w) (hx : PlOk w B (F ++ H) x)
    (hd : (H' = H ∧ Only H w w') ∨ (Only [] w w' ∧ ∀ k ∈ H', w.heap.size ≤ k)) (hl : ∀ k ∈ H', k < w'.heap.size) : PO W T R0 L (fun w' => R w' ∧ ∀ y ∈ z ++ [x], PlOk w' 0 [] y) s F H' w' := by
  have h2 := h.app hd hl
  have ho : Only H w w' := hd.elim (fun h => h.2) (fun h => h.1.up)
  have hH : ∀ k ∈ H', k ∈ H ∨ w.heap.size ≤ k := hd.elim (fun h k hk => .inl (h.1 ▸ hk)) (fun h k hk => .inr (h.2 k hk))
  have hx2 : PlOk w B (F ++ H ++ H') x := hx.wide (fun k hk => by
    rcases List.mem_append.1 hk with hk | hk
    · exact .inl hk
    · exact (hH k hk).imp (List.mem_append_right _) .inr)
  have hx3 : PlOk w' B (F ++ H ++ H') x := hx2.f (ho.mono (fun k hk => .inl (by simp [hk])))
  refine (h2.with ((hx3.keeps.sub (F' := F ++ H') (fun k hk => .inl ?_)).mono (fun w' h => h.sub (B' := 0) (F' := []) (Nat.zero_le _) (by simp)))).mono (fun w' hw => ⟨hw.1.1, fun y hy => ?_⟩)
  · rcases List.mem_append.1 hk with hk | hk
    · simp [hk]
    · simp [hk]
  · rcases List.mem_append.1 hy with hy | hy
    · exact hw.1.2 y hy
    · rw [List.mem_singleton.1 hy]
      exact hw.2
/-- The same, beside the datagram and the row of pieces. -/
structure PI (FY : List Nat) (Y1 : Option Addr) (cY1 : Nat) (bs : List UInt8) (FL : List Nat) (LA : Option Addr) (n lc : Nat) (zl : List Pl) (B : Nat) (w : World) : Prop where
  y : Row w 5 1 FY Y1 bs.length cY1 (bs.map u8)
  l : Row w 56 46 FL LA n lc (zl.flatMap pkP)
  ok : ∀ x ∈ zl, PlOk w B FL x
/-- What holds at each turn of the inner loop. -/
structure PL (W : World) (T : Nat) (R0 : World → Prop) (L : List Nat) (R : World → Prop) (S0 S1 : NatS) (k : Nat) (a : Ad) (port : Int) (p : Pk) (q nk : Nat) (cO : Option Nat) (oX : Int) (i : Nat) (s : NatS) (F : List Nat) (A : Option Addr) (c : Nat) (H : List Nat) (z : List Pl) (o : Int) (w : World) : Prop where
  hi : i ≤ nk + 16
  hs : s = S1 ∨ (i = 0 ∧ s = S0)
  po : PO W T R0 L (fun w' => R w' ∧ ∀ x ∈ z, PlOk w' 0 [] x) s F H w
  g : Row w 56 46 H A (min i (nk + 1)) c (z.flatMap pkP)
  hz : z.map (·.p) = (List.range (min i (nk + 1))).map (fun j => parseP (ansL k a port p q nk (kOf (nk + 1) cO j)))
  ho : 0 < i → o = oX

set_option maxHeartbeats 4000000 in
set_option maxRecDepth 100000 in
theorem natParts_does {W : World} {A B : Option Addr} {n c m d : Nat} {G GB : List Nat} {x : Int × Int} {to mtu kind : Int} {data0 : List UInt8} {order : List Int} (hs : Shp W) (hg : 1 < W.heap.size) (hd : Bs W GB B m data0) (hGB : ∀ k ∈ GB, k < W.heap.size) (hmd : m ≤ d) (hm : m ≤ 140737488355328) (hdm : d ≤ 9223372036854775807)
    (hz : Sl W 1 G A n (order.map (Value.int .i64))) (hG : ∀ k ∈ G, k < W.heap.size) (hn : n ≤ c ∧ c ≤ 9223372036854775807) :
    Does Tryz.prog 8 [.agg ⟨encEnd x⟩, .int .i64 to, .slice B m d, .int .i64 mtu, .slice A n c, .int .i64 kind] W (fun v w' => v = .bool true ∧ Only [] W w') := by
  obtain ⟨eh, ep⟩ := x
  have hep := and65535n (x := ep)
  have hol : order.length = n := by simpa using hz.1
  have hand : n ≤ 9223372036854775807 → andI .i64 (n : Int) 15 = ((n % 16 : Nat) : Int) := fun h => (andI_mask .i64 (n : Int) 4 (by omega) (by show (n : Int) ≤ ((9223372036854775807 : Nat) : Int); omega) (by decide)).trans (by omega)
  have hand := hand (by omega)
  obtain ⟨cO, hcO⟩ : ∃ cO : Option Nat, cO = if n = 0 then none else some (andI .i64 (order.getD 0 0) 65535).toNat := ⟨_, rfl⟩
  have hpt := peerP_bd to
  obtain ⟨k, hk, hk3⟩ : ∃ k : Nat, andI .i64 kind 3 = (k : Int) ∧ k ≤ 3 := ⟨(andI .i64 kind 3).toNat, by have := and3n (x := kind); omega, by have := and3n (x := kind); omega⟩
  obtain ⟨m0, hm0, hm15⟩ : ∃ k : Nat, andI .i64 mtu 15 = (k : Int) ∧ k ≤ 15 := ⟨(andI .i64 mtu 15).toNat, by have := and15n (x := mtu); omega, by have := and15n (x := mtu); omega⟩
  have hA := (Only.refl [] W).alloc (.cells ⟨encEnd (eh, ep)⟩ 66)
  have b6 := Blk.new W 66 ⟨encEnd (eh, ep)⟩
  have zA := World.size_alloc W (.cells ⟨encEnd (eh, ep)⟩ 66)
  refine Does.enter (fn := Tryz.f8) (by kernel_rfl) rfl (by kernel_rfl) (by kernel_rfl) ?_
  conv => whnf
  refine (alive_does (hs.o hA) (by have := b6.lt; omega)).mono ?_
  rintro v w1 ⟨rfl, ho1⟩
  conv => whnf
  refine wide_does.mono ?_
  rintro v w2 ⟨T, rfl, hT, hSt2, ho2⟩
  have hTlt : T < w2.heap.size := hSt2.lt T (by simp)
  conv => whnf
  refine vStore.fresh (cs := cfC (wideC 9)) (by rw [cf_len (wideC_ok _)]; kernel_rfl) (by rw [cf_len (wideC_ok _)]; kernel_rfl) (one_cfC _) (fun w3 b12 ho3 hz3 => ?_)
  have hA3 := (ho1.t0 ho2).t0 ho3
  have hw3 := hA.t0 hA3
  have hSt3 := hSt2.o ho3
  conv => whnf
  refine (short_does (k := 2000) (hd.o hw3) hm hmd hdm).mono ?_
  rintro v w4 ⟨X, nX, cX, FX, rfl, hrX, ho4, hFX⟩
  obtain rfl := (Row.bs hrX).len
  have hw4 := hw3.t0 ho4
  generalize hdata : data0.take 2000 = data at *
  have hdl : data.length ≤ 2000 := by rw [← hdata, List.length_take]; omega
  conv => whnf
  refine VLoop.inv (α := List UInt8 × Option Addr × Nat) [(2, 3), (51, 60)] (fun | (l, Y, cY) => [(2, .slice Y l.length cY)])
    (fun | (l, Y, cY) => fun w' => ∃ F, Row w' 5 1 F Y l.length cY (l.map u8) ∧ Only [] w3 w' ∧ (∀ k ∈ F, w3.heap.size ≤ k) ∧ l.length ≤ 2000) (fun | (l, Y, cY) => 60 - l.length) (data, X, cX) (by kernel_rfl) ⟨rfl, trivial⟩ ⟨FX, hrX, ho4, hFX, hdl⟩ ?_
  rintro ⟨l, Y, cY⟩ wr j ⟨F, hrF, hox, hF, hl⟩
  conv => whnf
  refine VIf.dec (fun ht => ?_) (fun ht => ?_)
  · conv => whnf
    have ew : IntKind.u8.wrap (l.length : Int) = ((UInt8.ofNat l.length).toNat : Int) := by
      rw [wi_u8l (by omega)]
    rw [ew]
    refine vFall.append 5 1 1 rfl (by kernel_rfl) rfl (hrF.alloc _) rfl (Sl.new wr 5 1 [u8 (UInt8.ofNat l.length)] 1 rfl) (by simp [Value.oneCell', u8]) (by omega) (by omega) ?_
    intro Y2 c2 F2 w5 hr5 ho5 hF5
    have hal := (Only.refl [] wr).alloc (.cells ⟨[u8 (UInt8.ofNat l.length)]⟩ 5)
    conv => whnf
    refine ⟨(l ++ [UInt8.ofNat l.length], Y2, c2), ⟨by rw [List.length_append]; rfl, trivial⟩, ⟨F2, ?_, (hox.t0 hal).trans ho5 (fun k hk => .inr (hF k hk)), fun k hk => (hF5 k hk).elim (hF k) (fun h => Nat.le_trans (Nat.le_trans hox.size hal.size) h), ?_⟩, ?_⟩
    · rw [List.length_append, List.map_append]
      exact hr5
    · rw [List.length_append, List.length_singleton]; omega
    · show 60 - (l ++ [UInt8.ofNat l.length]).length < 60 - l.length
      rw [List.length_append, List.length_singleton]; omega
  have hl60 : 60 ≤ l.length := by omega
  clear hrX ho4 hFX hdl hdata hw4
  conv => whnf
  refine (peer_does (k := to)).mono ?_
  rintro v w5 ⟨rfl, ho5⟩
  conv => whnf
  refine vStore.fresh (cs := adC (peerA to)) (by kernel_rfl) (by kernel_rfl) (one_adC _) (fun w6 b13 ho6 hz6 => ?_)
  have h36 : Only [] w3 w6 := (hox.t0 ho5).t0 ho6
  have hPO : PO W T (PE W.heap.size w2.heap.size w5.heap.size eh ep to F Y cY l) [] (fun _ => True) (nS [] [] []) [T] [] w6 := by
    have h1 := ho1.size
    have h2 := ho2.size
    have h3 := ho3.size
    have h5 := (hox.t0 ho5).size
    have b12lt := b12.lt
    refine ⟨hSt3.o h36, fun k hk => by rw [List.mem_singleton.1 hk]; omega, by simp, by simp, hw3.t0 h36, fun _ _ => trivial, fun w' ho => ⟨(b6.only (hA3.t0 h36) (by simp)).only ho (by simp; omega), (b12.only h36 (by simp)).only ho (by simp; omega), b13.only ho (by simp; omega), (hrF.only (ho5.t0 ho6) (by simp)).only ho (fun k hk => by have := hF k hk; simp; omega)⟩⟩
  generalize W.heap.size = q6 at hPO
  generalize w2.heap.size = q12 at hPO
  generalize w5.heap.size = q13 at hPO
  clear hrF hox hF hSt2 hSt3 b12 b13 b6 ho5 ho6 ho1 ho2 ho3 h36 hw3 hA3 hTlt hz3 hz6 hA zA ht hT
  conv => whnf
  refine VLoop.inv (α := Int × NatS × List Nat) [(12, 13), (17, 41), (65, 306)] (fun t => [(18, .int .i64 t.1), (17, .int .i64 (wayO t.1))])
    (fun t w' => WS eh ep to t.1 t.2.1 ∧ PO W T (PE q6 q12 q13 eh ep to F Y cY l) [] (fun _ => True) t.2.1 t.2.2 [] w') (fun t => (2 - t.1).toNat) (0, nS [] [] [], [T]) (by kernel_rfl) ⟨rfl, rfl, trivial⟩ ⟨.inl ⟨rfl, rfl⟩, hPO⟩ ?_
  clear hPO
  rintro ⟨way, s, FN⟩ wr j ⟨hWS, hP⟩
  dsimp only at hWS hP
  rcases hWS with ⟨rfl, rfl⟩ | ⟨rfl, rfl⟩ | rfl
  rotate_right
  · conv => whnf
    exact ⟨rfl, hP.o⟩
  · conv => whnf
    refine VDraw.abs fun N2 hN2 => ?_
    refine VDraw.held (fun w' => Only [] wr w') [0, 2, 3, 5, 6, 7, 8, 1, 4, 9, 10] (by kernel_rfl) (by kernel_rfl) ((Only.refl [] wr).drew) ?_
    conv => whnf
    refine ⟨_, fun w' hw' => Loads.all (hP.k0.at hw').e (by kernel_rfl) (by kernel_rfl), ?_⟩
    conv => whnf
    refine ⟨_, fun w' hw' => Loads.all (hP.k0.at hw').d (by kernel_rfl) (by rw [adC_len (peer_ok to)]; kernel_rfl), ?_⟩
    conv => whnf
    refine ⟨_, fun w' hw' => Loads.all (hP.k0.at hw').e (by kernel_rfl) (by kernel_rfl), ?_⟩
    conv => whnf
    refine (endAddr_does (h := eh) (p := ep)).mono ?_
    rintro v wb ⟨rfl, hob⟩
    have hrb : Only [] wr wb := ((Only.refl [] wr).drew).t0 hob
    refine ⟨hrb, ?_⟩
    conv => whnf
    refine (endPort_does (h := eh) (p := ep)).mono ?_
    rintro v wc ⟨rfl, hoc⟩
    have hrc : Only [] wr wc := hrb.t0 hoc
    refine ⟨hrc, ?_⟩
    conv => whnf
    rw [hk]
    refine (datagram_does (host_ok eh) (peer_ok to) (pair_hp eh to) rfl (Row.bs (hP.k0.at hrc).x) (by omega) (hs.o (hP.o.t0 hrc)) hep hpt (by decide)).mono ?_
    rintro v wd ⟨Y1, nY, cY1, FY, rfl, hrY, hod, hFY⟩
    obtain rfl := (Row.bs hrY).len
    have hrd : Only [] wr wd := hrc.t0 hod
    refine ⟨hrd, ?_⟩
    refine hN2 _ _ ?_
    clear hN2 N2
    conv => whnf
    refine VJoin.go (by kernel_rfl) ?_
    conv => whnf
    obtain ⟨D, hDe, hDl, hD0, hD2⟩ := datagram_is (a := hostA eh) (b := peerA to) (sp := andI .i64 ep 65535) (dp := peerP to) (id := 77) (data := l) (k := (k : Int)) hep hpt (by omega)
    rw [hDe] at hrY
    obtain ⟨e1, e2, e3, e4⟩ := pack_facts (id := 77) (d := D) (host_is4 eh) (peer_is4 to) (by decide) (by omega) (by omega)
    rw [hDe]
    refine (own_does (Row.bs hrY) (by omega)).mono ?_
    rintro v we ⟨Z, nZ, cZ, FZ, rfl, hrZ, hoe, hFZ⟩
    obtain rfl := (Row.bs hrZ).len
    have hre := hrd.t0 hoe
    conv => whnf
    have hPd := parse_does (Row.bs hrZ) (hs.o (hP.o.t0 hre)) (by omega) hrZ.le.1 (by have := hrZ.le.2; unfold maxLen at this; exact this)
    rw [e1, e2] at hPd
    refine hPd.mono ?_
    clear hPd
    rintro v wf ⟨O1, D1, rfl, hpk, hof⟩
    have hrf := hre.t0 hof
    have hpl := pk_len (O := O1) (D := D1) hpk.ok
    conv => whnf
    refine vStore.fresh (cs := pkC (dgPk (hostA eh) (peerA to) 77 D) O1 D1) (by rw [hpl]; kernel_rfl) (by rw [hpl]; kernel_rfl) (one_pkC _ _ _) (fun wg b20 hog hzg => ?_)
    have hrg := hrf.t0 hog
    conv => whnf
    refine ⟨_, Loads.all b20 (by kernel_rfl) (by rw [hpl]; kernel_rfl), ?_⟩
    conv => whnf
    rw [hm0]
    obtain ⟨q, hq⟩ : ∃ q, q = (48 + m0) / 8 * 8 := ⟨_, rfl⟩
    have hq8 : q % 8 = 0 := by omega
    have h8q : 8 ≤ q := by omega
    refine (cut_does (m := 48 + m0) (q := q) ((hpk.o hog).below (Nat.zero_le _)) (hs.o (hP.o.t0 hrg)) (dgPk_right (pair_hp eh to) rfl (by decide) (by omega)) rfl rfl rfl rfl rfl (by rw [wi64]; omega) (by omega) (show 48 + m0 < D.length by omega) hq).mono ?_
    rintro v wh ⟨LA, ln, lc, FL, zl, nk, rfl, hrL, hzl, rfl, hk0, hkq, hlast, hlong, hokl, hoh, hFL⟩
    have hdg := dgm_of (id := 77) (host_is4 eh) (peer_is4 to) (pair_hp eh to) (host_ok eh) (peer_ok to) (by decide) (show D.length ≤ 65515 by omega) hq8 h8q hk0 hkq
    have hnk : nk ≤ 300 := by
      have h1 : nk * 8 ≤ nk * q := Nat.mul_le_mul_left _ h8q
      have h2 : nk * q < D.length := hkq
      omega
    have hrh := hrg.t0 hoh
    conv => whnf
    refine VIf.dec (fun h => absurd h (by omega)) (fun _ => ?_)
    conv => whnf
    have hW : WayP 12 (fourD 192 0 2 1) 4000 (dgPk (hostA eh) (peerA to) 77 D) q nk (fun s l => outS s 0 l) (nS [] [] []) (nS [mapO eh ep] [notO eh to] []) := way_out hdg (show (77 : Int) ≠ 79 by decide) (host_inside eh) (peer_outside to) hD0
    have ok0 : okS (nS [] [] []) := okS_nS (by simp) (by simp) (by simp) (by simp) (by simp) (by simp)
    have ok1 : okS (nS [mapO eh ep] [notO eh to] []) := okS_nS (by simp) (by simp) (by simp) (fun m hm => by rw [List.mem_singleton.1 hm]; exact host_ok eh) (fun m hm => by rw [List.mem_singleton.1 hm]; exact ⟨⟨show (-9223372036854775808 : Int) ≤ 4 ∧ (4 : Int) ≤ 9223372036854775807 by decide, host_ok eh, peer_ok to, show (-9223372036854775808 : Int) ≤ 17 ∧ (17 : Int) ≤ 9223372036854775807 by decide, show (0 : Int) ≤ 77 ∧ (77 : Int) ≤ 4294967295 by decide⟩, host_ok eh⟩) (by simp)
    generalize nS [] [] [] = S0 at hW ok0 hP
    obtain ⟨S1, hS1⟩ : ∃ S, S = nS [mapO eh ep] [notO eh to] [] := ⟨_, rfl⟩
    rw [← hS1] at hW ok1
    have hl7 : ∀ k ∈ FN, k < wr.heap.size := hP.st.lt
    have hPi : PO W T (PE q6 q12 q13 eh ep to F Y cY l) FL (PI FY Y1 cY1 (packL (dgPk (hostA eh) (peerA to) 77 D)) FL LA (nk + 1) lc zl wg.heap.size) S0 FN [] wh := by
      have hq := hP.on hrh
      have z1 := hrc.size
      have z2 := hrg.size
      refine ⟨hq.st, hq.hF, hq.hH, fun k hk => ⟨by have h1 := hFL k hk; have h2 := hP.o.size; omega, hrL.lt k hk, fun hm => by have h1 := hFL k hk; have h2 := hl7 k hm; omega⟩, hq.o, fun w' ho => ⟨?_, ?_, fun x hx => ?_⟩, hP.k0.go hrh.up (fun k hk => ?_)⟩
      · exact (hrY.only (((hoe.t0 hof).t0 hog).t0 hoh) (by simp)).only ho (fun k hk hm => by have h1 := hFY k hk; have h2 := hl7 k (by simpa using hm); omega)
      · exact hrL.only ho (fun k hk hm => by have h1 := hFL k hk; have h2 := hl7 k (by simpa using hm); omega)
      · exact (hokl x hx).only ho (fun k _ h1 hm => by have h2 := hl7 k (by simpa using hm); omega)
      · rcases List.mem_append.1 hk with hk | hk
        · exact .inl (List.mem_append_left _ hk)
        · have h1 := hFL k (by simpa using hk)
          exact .inr (by omega)
    have hget : ∀ (kv : Nat) (h : kv < zl.length), zl[kv].p = (piecesP (dgPk (hostA eh) (peerA to) 77 D) q nk).getD kv (dgPk (hostA eh) (peerA to) 77 D) := fun kv h => by
      have h1 : (zl.map (·.p))[kv]? = (piecesP (dgPk (hostA eh) (peerA to) 77 D) q nk)[kv]? := by rw [hzl]; rfl
      rw [List.getD_eq_getElem?_getD, ← h1]
      simp [h]
    have hzll : zl.length = nk + 1 := by have := congrArg List.length hzl; simpa using this
    obtain ⟨oX, hoX⟩ : ∃ oX, oX = wordL (parseP (ansL 12 (fourD 192 0 2 1) 4000 (dgPk (hostA eh) (peerA to) 77 D) q nk 0)).data 0 := ⟨_, rfl⟩
    refine VLoop.inv (α := Nat × NatS × List Nat × Option Addr × Nat × List Nat × List Pl × Int) [(12, 13), (17, 18), (24, 33), (115, 232)]
      (fun | (i, s, F, A, c, H, z, o) => [(26, .int .i64 i), (24, .slice A (min i (nk + 1)) c), (25, .bool (decide (i = 0))), (17, .int .i64 o)])
      (fun | (i, s, F', A, c, H, z, o) => PL W T (PE q6 q12 q13 eh ep to F Y cY l) FL (PI FY Y1 cY1 (packL (dgPk (hostA eh) (peerA to) 77 D)) FL LA (nk + 1) lc zl wg.heap.size) S0 S1 12 (fourD 192 0 2 1) 4000 (dgPk (hostA eh) (peerA to) 77 D) q nk cO oX i s F' A c H z o)
      (fun t => nk + 17 - t.1) (0, S0, FN, none, 0, [], [], wayO 0) (by kernel_rfl) ⟨rfl, rfl, rfl, rfl, trivial⟩ ⟨Nat.zero_le _, .inr ⟨rfl, rfl⟩, hPi.mono (fun w' h => ⟨h, by simp⟩), Row.nil _ _ _ _, rfl, fun h => absurd h (by decide)⟩ ?_
    clear hPi
    rintro ⟨i, s, FN, Ag, cg, H, z, o⟩ wi j hL
    dsimp only at hL
    have hiL := hL.hi
    conv => whnf
    rw [hand]
    refine VIf.dec (fun ht => ?_) (fun ht => ?_)
    rotate_left
    · have hti : nk + 1 ≤ i := by rw [wi64] at ht; omega
      have hmin : min i (nk + 1) = nk + 1 := by omega
      have hs1 : s = S1 := hL.hs.elim id (fun h => absurd h.1 (by omega))
      have hPs := hL.po
      rw [hs1] at hPs
      have hgF : ∀ F' : List Nat, (∀ k ∈ F', W.heap.size ≤ k) → 1 ∉ F' := fun F' h hm => by have := h _ hm; omega
      have hzk := hL.hz
      rw [hmin] at hzk
      have hDd : (dgPk (hostA eh) (peerA to) 77 D).data = D := rfl
      conv => whnf
      refine VJoin.go (by kernel_rfl) ?_
      conv => whnf
      refine (own_does (Row.bs hPs.k.here.1.y) (by rw [e4]; omega)).mono ?_
      rintro v w1 ⟨Z1, n1, c1, F1, rfl, hr1, ho1, hF1⟩
      obtain rfl := (Row.bs hr1).len
      have hP1 := hPs.on ho1
      conv => whnf
      have hO := out_does (now := 0) hP1.st ok1 (Row.bs hr1) (fun k hk hm => by have h1 := hF1 k hk; have h2 := hPs.st.lt k hm; omega) (hs.o hP1.o) (hgF _ hP1.hF) (by rw [e4]; omega) hr1.le.1 (by have := hr1.le.2; unfold maxLen at this; exact this)
      obtain ⟨u1, u2, u3⟩ := gone_parsed (q := 0) (n := 0) (port := 4000) (k := 12) (.inl rfl) e1 e3 e2 (is4_four 192 0 2 1)
      have u4 : (endL (packL (dgPk (hostA eh) (peerA to) 77 D)) 12 (fourD 192 0 2 1) 4000 20).length = 20 + D.length := by rw [endL_len, e4]
      have hwho := hW.whole
      generalize endL (packL (dgPk (hostA eh) (peerA to) 77 D)) 12 (fourD 192 0 2 1) 4000 20 = eb at u1 u2 u4 hwho
      rw [show outS S1 0 (packL (dgPk (hostA eh) (peerA to) 77 D)) = _ from hwho] at hO
      refine hO.mono ?_
      clear hO
      rintro v w2 ⟨V, cV, FV, F', rfl, hrV, hSt', ho2, hF', hFV⟩
      dsimp only at hrV hSt' hF' hFV
      have hP2 := hP1.go ho2 hSt' hF'
      have hPw := parse_does (Row.bs hrV) (hs.o hP2.o) (by omega) hrV.le.1 (by have := hrV.le.2; unfold maxLen at this; exact this)
      rw [u1, u2] at hPw
      conv => whnf
      refine hPw.mono ?_
      clear hPw
      rintro v w3 ⟨O3, D3, rfl, hp3, ho3⟩
      have hl3 := pk_len (O := O3) (D := D3) hp3.ok
      have hP3 := hP2.on ho3
      conv => whnf
      refine vStore.fresh (cs := pkC (goneP 12 (fourD 192 0 2 1) 4000 (dgPk (hostA eh) (peerA to) 77 D)) O3 D3) (by rw [hl3]; kernel_rfl) (by rw [hl3]; kernel_rfl) (one_pkC _ _ _) (fun w4 b35 ho4 hz4 => ?_)
      have hP4 := hP3.on ho4
      obtain ⟨e, he, hzl2, hfr, hokK, hperm, hlast2⟩ := frags_gone (.inl rfl) hdg (is4_four 192 0 2 1) hzk
      have hi4 : Only FN wi w4 := ((ho1.zf ho2).f0 ho3).f0 ho4
      have hrg4 := hL.g.only hi4 (fun k hk => (hL.po.hH k hk).2.2)
      conv => whnf
      have hgl : (turnD (wasP 12 (dgPk (hostA eh) (peerA to) 77 D)) (dgPk (hostA eh) (peerA to) 77 D).data ((12 - 12) / 2) (fourD 192 0 2 1) 4000).length = D.length := turnD_len
      refine (join_does (e := e) hrg4.sl (by omega) (by omega) hP4.k.here.2 hfr hokK (by omega) (hs.o hP4.o) hperm (gone_chain (.inl rfl) h8q hk0 hkq) (by rw [hgl]; omega) (by rw [hgl]; exact hlast2) (gone_whole hdg) u3).mono ?_
      rintro v w5 ⟨O5, D5, rfl, hO5, ho5⟩
      have hP5 := hP4.on ho5
      have hl5 := pk_len (O := O5) (D := D5) hp3.ok
      conv => whnf
      refine vStore.fresh (cs := pkC (goneP 12 (fourD 192 0 2 1) 4000 (dgPk (hostA eh) (peerA to) 77 D)) O5 D5) (by rw [hl5]; kernel_rfl) (by rw [hl5]; kernel_rfl) (one_pkC _ _ _) (fun w6 b37 ho6 hz6 => ?_)
      have hP6 := hP5.on ho6
      have b35x := b35.only (ho5.t0 ho6) (by simp)
      conv => whnf
      (refine ⟨_, b37.pkAll hp3.ok, ?_⟩; conv => whnf)
      (refine ⟨_, b35x.pkAll hp3.ok, ?_⟩; conv => whnf)
      have hgd : (goneP 12 (fourD 192 0 2 1) 4000 (dgPk (hostA eh) (peerA to) 77 D)).data.length = D.length := turnD_len
      refine (sameP_does (hO5.pks.o ho6) (hp3.o ((ho4.t0 ho5).t0 ho6)) ⟨by show ([] : List UInt8).length ≤ 65535; simp, by rw [hgd]; omega⟩).mono ?_
      rintro v w7 ⟨rfl, ho7⟩
      have hP7 := hP6.on ho7
      have hrl := hP7.k.here.1.l
      have hokl7 := hP7.k.here.1.ok
      obtain ⟨gl, cur, rfl, rfl, -⟩ := hrl.blk (by have := hrl.le; omega)
      conv => whnf
      refine ⟨_, _, rfl, 1, 0 + 1 * 46, rfl, by omega, rfl, ?_⟩
      conv => whnf
      obtain ⟨hst8, hr8, ho8⟩ := Row.putAt (P := Tryz.prog) (t := 54) (i := 1) (j := 39) (v := .int .u32 79) (x := ⟨{ zl[1].p with id := 79 }, zl[1].O, zl[1].D⟩) hrl pkP_len (by kernel_rfl) rfl (by omega) hzll (by decide) (pkP_setId _ _)
      refine ⟨_, hst8, ?_⟩
      generalize w7.setCell _ _ = w8 at hr8 ho8
      conv => whnf
      have hP8 := hP7.fin ho8
      have hx1 := hokl7 zl[1] (List.getElem_mem _)
      have hpe1 := hget 1 (by omega)
      obtain ⟨x9, hx9, hxo, hxr, hxi, hxe, hxp, -, -, -, -, -⟩ := hdg.other (show (77 : Int) ≠ 79 by decide)
      rw [← hpe1] at hx9
      have hoth := hW.other
      rw [← hpe1, ← hx9] at hoth
      have hel9 : Loads Tryz.prog 56 ⟨gl, 0 + 1 * 46, none⟩ w8 (.agg ⟨pkC x9 zl[1].O zl[1].D⟩) := by
        have h1 := Sl.elem (P := Tryz.prog) (t := 56) (i := 1) hr8.sl pkP_len (by rw [List.length_set]; omega) (by kernel_rfl) (by kernel_rfl)
        rw [List.getElem_set_self, ← hx9, pkP_id (x := ⟨x9, zl[1].O, zl[1].D⟩) hxo] at h1
        exact h1
      have hpk9 : Pks w8 x9 zl[1].O zl[1].D 0 := by
        have h1 := (hx1.f ho8).pks.below (Nat.zero_le _)
        have ho9 : x9.opts = zl[1].p.opts := by rw [hx9]
        have hd9 : x9.data = zl[1].p.data := by rw [hx9]
        exact ⟨hxo, by rw [ho9]; exact h1.opts, by rw [hd9]; exact h1.data, by rw [ho9]; exact h1.oc, by rw [hd9]; exact h1.dc, by rw [ho9]; exact h1.ol, by rw [hd9]; exact h1.dl⟩
      have hR9 := rgt_of hxr
      have hll9 := hR9.len
      obtain ⟨-, -, -, hlen9⟩ := pack_any hxo hxr (by rw [hxi]; decide)
      clear hx9 hxe hxp hx1 hpe1 hokl7
      refine ⟨_, _, rfl, 1, 0 + 1 * 46, rfl, by omega, rfl, ?_⟩
      conv => whnf
      refine ⟨_, hel9, ?_⟩
      conv => whnf
      refine (ownP_does hpk9 (by omega) (by omega)).mono ?_
      rintro v wa ⟨Oa, Da, rfl, hOa, hoa⟩
      have hPa := hP8.on hoa
      conv => whnf
      have hBd := ipBuild_does (hOa.pks.below (Nat.zero_le _)) (hs.o hPa.o) hxr (by show 0 ≤ x9.id; rw [hxi]; decide)
      dsimp only at hBd
      generalize packL x9 = xb at hBd hlen9 hoth
      refine hBd.mono ?_
      clear hBd
      rintro v wb ⟨AB, cB, FB, rfl, hrB, hob, hFB⟩
      have hPb := hPa.on hob
      conv => whnf
      refine VJoin.go (by kernel_rfl) ?_
      conv => whnf
      have hO := out_does (now := 0) hPb.st ok1 (Row.bs hrB) (fun k hk hm => by have h1 := hFB k hk; have h2 := hPa.st.lt k hm; omega) (hs.o hPb.o) (hgF _ hPb.hF) (by omega) hrB.le.1 (by have := hrB.le.2; unfold maxLen at this; exact this)
      rw [show outS S1 0 xb = _ from hoth] at hO
      refine hO.mono ?_
      clear hO
      rintro v wc2 ⟨V9, cV9, FV9, F9, rfl, hrV9, hSt9, hoc9, hF9, hFV9⟩
      have hPc := hPb.go hoc9 hSt9 hF9
      conv => whnf
      have ho4000 : o = 4000 := (hL.ho (by omega)).trans (hoX.trans (((ans_data (port := 4000) (k := 12) (i := 0) (.inl rfl) hdg (is4_four 192 0 2 1) (by omega)).2.2 rfl).2 (by decide)))
      exact ⟨(1, S1, F9), ⟨rfl, congrArg (Value.int .i64) ho4000, trivial⟩, ⟨.inr (.inl ⟨rfl, hS1⟩), hPc⟩, show (2 - (1 : Int)).toNat < (2 - (0 : Int)).toNat by decide⟩
    · have ht : i < nk + 1 + n % 16 := by rw [wi64] at ht; omega
      conv => whnf
      have hWi := hL.po.o
      refine VJoin.cut (α := Nat) [(27, 28), (126, 159)] (fun kv => [(27, .int .i64 kv)]) (fun kv w' => w' = wi ∧ kv < nk + 1 ∧ (i < nk + 1 → kv = kOf (nk + 1) cO i)) (by kernel_rfl) ?_ ?_
      · conv => whnf
        refine VIf.dec (fun h1 => ?_) (fun h1 => ?_)
        · have h1 : nk + 1 ≤ i := by omega
          have hn0 : 0 < n := by omega
          obtain ⟨b, off, rfl, -⟩ := hz.2 hn0
          have e1 : IntKind.i64.wrap ((i : Int) - ((nk + 1 : Nat) : Int)) = ((i - (nk + 1) : Nat) : Int) := by rw [wi64]; omega
          conv => whnf
          refine ⟨_, _, rfl, i - (nk + 1), off + (i - (nk + 1)), e1, by omega, p1 _ _, ?_⟩
          conv => whnf
          refine ⟨.int .i64 (order.getD (i - (nk + 1)) 0), Loads.one (by kernel_rfl) ((hz.o hWi).ld (by rw [List.getElem?_map, List.getD_eq_getElem?_getD, List.getElem?_eq_getElem (by omega)]; rfl)), ?_⟩
          generalize order.getD (i - (nk + 1)) 0 = ov
          have hov := and65535n (x := ov)
          conv => whnf
          refine ⟨((andI .i64 ov 65535).tmod ((nk + 1 : Nat) : Int)).toNat, ⟨?_, trivial⟩, rfl, ?_, fun h => absurd h (by omega)⟩
          · have := Int.tmod_nonneg ((nk + 1 : Nat) : Int) hov.1
            refine congrArg (Value.int .i64) ?_
            omega
          · have := Int.tmod_lt_of_pos (andI .i64 ov 65535) (show (0 : Int) < ((nk + 1 : Nat) : Int) by omega)
            omega
        · have h1 : i < nk + 1 := by omega
          conv => whnf
          refine VIf.dec (fun h2 => ?_) (fun h2 => ?_)
          rotate_left
          · conv => whnf
            obtain rfl : i = 0 := by omega
            exact ⟨0, ⟨rfl, trivial⟩, rfl, by omega, fun _ => rfl⟩
          have hi0 : i ≠ 0 := by omega
          conv => whnf
          refine VIf.dec (fun h3 => ?_) (fun h3 => ?_)
          rotate_left
          · conv => whnf
            refine ⟨i, ⟨rfl, trivial⟩, rfl, by omega, fun _ => ?_⟩
            rw [hcO, if_pos (by omega), kOf, if_neg hi0]
          have hn0 : 0 < n := by omega
          obtain ⟨b, off, rfl, -⟩ := hz.2 hn0
          conv => whnf
          refine ⟨_, _, rfl, 0, off + 0, rfl, by omega, p1 _ _, ?_⟩
          conv => whnf
          refine ⟨.int .i64 (order.getD 0 0), Loads.one (by kernel_rfl) ((hz.o hWi).ld (by rw [List.getElem?_map, List.getD_eq_getElem?_getD, List.getElem?_eq_getElem (by omega)]; rfl)), ?_⟩
          have hck : kOf (nk + 1) cO i = 1 + (i + (andI .i64 (order.getD 0 0) 65535).toNat) % nk := by
            rw [hcO, if_neg (by omega), kOf, if_neg hi0]
            rfl
          generalize order.getD 0 0 = ov at hck ⊢
          have hov := and65535n (x := ov)
          obtain ⟨av, hav⟩ : ∃ k : Nat, andI .i64 ov 65535 = (k : Int) := ⟨(andI .i64 ov 65535).toNat, by omega⟩
          rw [hav] at hck hov
          have hmod := Nat.mod_lt (i + av) (show 0 < nk by omega)
          have e1 : IntKind.i64.wrap ((i : Int) + (av : Int)) = ((i + av : Nat) : Int) := by rw [wi64]; omega
          have e2 : IntKind.i64.wrap (((nk + 1 : Nat) : Int) - 1) = (nk : Int) := by rw [wi64]; omega
          have e3 : IntKind.i64.wrap (1 + (((i + av) % nk : Nat) : Int)) = ((1 + (i + av) % nk : Nat) : Int) := by rw [wi64]; omega
          conv => whnf
          refine nz.of (by rw [e2]; omega) ?_
          conv => whnf
          refine ⟨1 + (i + av) % nk, ⟨?_, trivial⟩, rfl, by omega, fun _ => ?_⟩
          · show Value.int .i64 (IntKind.i64.wrap (1 + (IntKind.i64.wrap ((i : Int) + andI .i64 ov 65535)).tmod (IntKind.i64.wrap (((nk + 1 : Nat) : Int) - 1)))) = _
            rw [hav, e1, e2, show ((i + av : Nat) : Int).tmod (nk : Int) = (((i + av) % nk : Nat) : Int) from rfl, e3]
          · rw [hck, Int.toNat_natCast]
      rintro kv wx j2 ⟨rfl, hkv, hkO⟩
      have hkv2 : kv < zl.length := by omega
      have hlsl := hL.po.k.here.1.l.sl
      obtain ⟨bl, offl, rfl, -⟩ := hlsl.2 (by omega)
      have hel : ∀ w', Only [] wx w' → Loads Tryz.prog 56 ⟨bl, offl + kv * 46, none⟩ w' (.agg ⟨pkC zl[kv].p zl[kv].O zl[kv].D⟩) := fun w' hw' => by
        rw [← pkP_id (hokl _ (List.getElem_mem hkv2)).ok]
        exact Sl.elem (hlsl.o hw') pkP_len hkv2 (by kernel_rfl) (by kernel_rfl)
      have hPz : PlOk wx wg.heap.size FL zl[kv] := hL.po.k.here.1.ok _ (List.getElem_mem hkv2)
      have hpe := hget kv hkv2
      generalize zl[kv] = zv at hel hPz hpe
      obtain ⟨pv, Ov, Dv⟩ := zv
      dsimp only at hel hpe
      have hpm : pv ∈ piecesP (dgPk (hostA eh) (peerA to) 77 D) q nk := by
        rw [hpe, List.getD_eq_getElem?_getD, List.getElem?_eq_getElem (by rw [pieces_len]; exact hkv)]
        exact List.getElem_mem _
      have hrt := pieces_right hdg.rt hdg.q8 hdg.le8 hdg.more hdg.nq _ hpm
      obtain ⟨g1, g2, g3, g4⟩ := hdg.laid hpm
      obtain ⟨-, -, -, -, -, -, s7, s8⟩ := hdg.same hpm
      conv => whnf
      refine ⟨_, _, rfl, kv, offl + kv * 46, rfl, by omega, rfl, ?_⟩
      conv => whnf
      refine ⟨_, hel wx (Only.refl _ _), ?_⟩
      conv => whnf
      refine (ownP_does hPz.pks (by show pv.opts.length ≤ 65535; rw [s8]; exact Nat.zero_le _) (by have h1 := (rgt_of hrt).len; show pv.data.length ≤ 65535; omega)).mono ?_
      rintro v w1 ⟨O2, D2, rfl, hO2, ho1⟩
      conv => whnf
      refine (ipBuild_does (hO2.pks.below (Nat.zero_le _)) (hs.o (hWi.t0 ho1)) hrt (by rw [s7]; show (0 : Int) ≤ 77; decide)).mono ?_
      rintro v w2 ⟨AB, cB, FB, rfl, hrB, ho2, hFB⟩
      have hx2 := ho1.t0 ho2
      conv => whnf
      refine VJoin.go (by kernel_rfl) ?_
      conv => whnf
      have hP2 := hL.po.on hx2
      have hst2 := hP2.st.lt
      have hsx : s = S1 ∨ (kv = 0 ∧ s = S0) := by
        rcases hL.hs with h | ⟨h, h'⟩
        · exact .inl h
        · subst h
          exact .inr ⟨hkO (by omega), h'⟩
      have hoks : okS s := by
        rcases hL.hs with h | ⟨-, h⟩
        · exact h ▸ ok1
        · exact h ▸ ok0
      have hans := hW.frag kv hkv s hsx
      rw [← hpe] at hans
      have hgF : ∀ F' : List Nat, (∀ k ∈ F', W.heap.size ≤ k) → 1 ∉ F' := fun F' h hm => by have := h _ hm; omega
      have hO := out_does (now := 0) hP2.st hoks (Row.bs hrB) (fun k hk hm => by have h1 := hFB k hk; have h2 := hL.po.st.lt k hm; have h3 := ho1.size; omega) (hs.o hP2.o) (hgF _ hP2.hF) (by rw [g4]; have := (rgt_of hrt).len; omega) hrB.le.1 (by have := hrB.le.2; unfold maxLen at this; exact this)
      rw [show outS s 0 (packL pv) = _ from hans] at hO
      refine hO.mono ?_
      clear hO
      rintro v w3 ⟨V, cV, FV, F', rfl, hrV, hSt', ho3, hF', hFV⟩
      dsimp only at hrV hSt' hF' hFV
      have hP3 := hP2.go ho3 hSt' hF'
      obtain ⟨f1, f2⟩ := ans_parsed (port := 4000) (k := 12) (.inl rfl) hdg (is4_four 192 0 2 1) hkv
      have hal2 := hrV.le
      conv => whnf
      refine (own_does (Row.bs hrV) (by rw [ans_len, ← hpe, g4]; have := (rgt_of hrt).len; omega)).mono ?_
      rintro v w4 ⟨Z4, n4, c4, F4, rfl, hr4, ho4, hF4⟩
      obtain rfl := (Row.bs hr4).len
      conv => whnf
      have hP4 := hP3.on ho4
      have hPq := parse_does (Row.bs hr4) (hs.o hP4.o) (by rw [ans_len, ← hpe, g4]; have := (rgt_of hrt).len; omega) hr4.le.1 (by have := hr4.le.2; unfold maxLen at this; exact this)
      obtain ⟨d1, d2, d3⟩ := ans_data (port := 4000) (k := 12) (i := kv) (.inl rfl) hdg (is4_four 192 0 2 1) hkv
      generalize hqv : parseP (ansL 12 (fourD 192 0 2 1) 4000 (dgPk (hostA eh) (peerA to) 77 D) q nk kv) = qv at hPq d1 d2 d3 f2
      rw [f1] at hPq
      refine hPq.mono ?_
      clear hPq
      rintro v w5 ⟨O5, D5, rfl, hpq, ho5⟩
      have hP5 := hP4.on ho5
      have hql := pk_len (O := O5) (D := D5) hpq.ok
      conv => whnf
      refine vStore.fresh (cs := pkC qv O5 D5) (by rw [hql]; kernel_rfl) (by rw [hql]; kernel_rfl) (one_pkC _ _ _) (fun w6 b31 ho6 hz6 => ?_)
      have hP6 := hP5.on ho6
      conv => whnf
      have hx6 : Only FN wx w6 := (((hx2.zf ho3).f0 ho4).f0 ho5).f0 ho6
      have hrg6 := hL.g.only hx6 (fun k hk => (hL.po.hH k hk).2.2)
      have hxq : PlOk w6 w4.heap.size (F' ++ H) ⟨qv, O5, D5⟩ := (hpq.pl (fun k hk => by
        rcases List.mem_append.1 hk with hk | hk
        · have := hP4.st.lt k hk
          omega
        · exact (hP4.hH k hk).2.1)).o ho6
      (refine ⟨_, Loads.one (by kernel_rfl) (b31.pkData hpq.ok), ?_⟩; conv => whnf)
      refine VIf.dec (fun h => absurd h (by omega)) (fun _ => ?_)
      conv => whnf
      refine VIf.of (b := decide (i = 0)) (fun hb => ?_) (fun hb => ?_)
      · obtain rfl : i = 0 := of_decide_eq_true hb
        obtain rfl : kv = 0 := hkO (by omega)
        obtain ⟨d4, d5⟩ := d3 rfl
        conv => whnf
        (refine ⟨_, Loads.one (by kernel_rfl) (b31.pkData hpq.ok), ?_⟩; conv => whnf)
        refine VIf.dec (fun h => absurd h (by omega)) (fun _ => ?_)
        conv => whnf
        have hin : 0 < nk + 1 := by omega
        have ei1 : IntKind.i64.wrap ((0 : Nat) + 1 : Int) = ((0 + 1 : Nat) : Int) := rfl
        obtain ⟨GD5, hGD5, hGD5l⟩ := hxq.data
        obtain ⟨bD, oD, eD, -⟩ := hGD5.some_ d1
        have hoX2 : wordL qv.data 0 = oX := by rw [hoX, hqv]
        refine VJoin.go (by kernel_rfl) ?_
        conv => whnf
        refine VIf.dec (fun _ => ?_) (fun h => absurd (show ((0 : Nat) : Int) < ((nk + 1 : Nat) : Int) by omega) h)
        conv => whnf
        refine ⟨_, Loads.all b31 (by kernel_rfl) (by rw [hql]; kernel_rfl), ?_⟩
        conv => whnf
        refine lenIs.of (Nat.succ.inj (Nat.succ.inj (Nat.succ.inj (Nat.succ.inj hql)))) ?_
        conv => whnf
        refine vFall.append3 56 46 152 rfl (by kernel_rfl) rfl (hrg6.alloc (.cells ⟨pkC qv O5 D5 ++ []⟩ 56)) rfl (Sl.new w6 56 46 (pkC qv O5 D5 ++ []) 1 (by rw [List.append_nil, hql])) (fun u hu => isOne_cell (one_pkC _ _ _ u (by rwa [List.append_nil] at hu))) (by omega) (by omega) (by omega) ?_
        intro A7 c7 H7 w7 hr7 (hde : (A7 = Ag ∧ c7 = cg ∧ H7 = H ∧ Only H (w6.alloc (.cells ⟨pkC qv O5 D5 ++ []⟩ 56)) w7) ∨ (Only [] (w6.alloc (.cells ⟨pkC qv O5 D5 ++ []⟩ 56)) w7 ∧ ∀ k ∈ H7, (w6.alloc (.cells ⟨pkC qv O5 D5 ++ []⟩ 56)).heap.size ≤ k))
        have hal := (Only.refl [] w6).alloc (.cells ⟨pkC qv O5 D5 ++ []⟩ 56)
        generalize w6.alloc _ = wd at hde hal
        rw [List.append_nil, ← pkP_id (x := ⟨qv, O5, D5⟩) hpq.ok] at hr7
        have hP7 := (hP6.on hal).append (hxq.o hal) (hde.imp (fun h => h.2.2) id) hr7.lt
        have hoH : Only H wd w7 := hde.elim (fun h => h.2.2.2) (fun h => h.1.up)
        have b317 := (b31.only hal (by simp)).only hoH (fun hm => absurd (hP5.hH _ hm).2.1 (Nat.lt_irrefl _))
        have hr8 := hr7.cast (show z.flatMap pkP ++ pkP ⟨qv, O5, D5⟩ = (z ++ [(⟨qv, O5, D5⟩ : Pl)]).flatMap pkP by rw [List.flatMap_append, List.flatMap_singleton])
        have hzz : (z ++ [(⟨qv, O5, D5⟩ : Pl)]).map (·.p) = (List.range (min (0 + 1) (nk + 1))).map (fun j => parseP (ansL 12 (fourD 192 0 2 1) 4000 (dgPk (hostA eh) (peerA to) 77 D) q nk (kOf (nk + 1) cO j))) := by
          rw [show min (0 + 1) (nk + 1) = 0 + 1 by omega, List.range_succ, List.map_append, List.map_append, hL.hz, show min 0 (nk + 1) = 0 by omega]
          simp only [List.map_cons, List.map_nil]
          rw [← hkO (by omega), hqv]
        conv => whnf
        have hGD := (hGD5.o hal).only hoH (fun k hk hm => (hGD5l k hk).2.1 (List.mem_append_right _ hm))
        simp only [] at hGD
        rw [eD] at hGD
        refine VDraw.abs fun N5 hN5 => ?_
        refine VDraw.q (by kernel_rfl) (by kernel_rfl) ?_
        conv => whnf
        refine ⟨_, fun w' hw' => Loads.one (by kernel_rfl) ((b317.only hw' (by simp)).pkData hpq.ok), ?_⟩
        rw [eD]
        conv => whnf
        refine ⟨_, _, rfl, 0, oD + 0, rfl, by omega, p1 _ _, ?_⟩
        conv => whnf
        refine ⟨_, fun w' hw' => Loads.one (by kernel_rfl) (Bs.ld (hGD.o hw') (getD_some (by omega))), ?_⟩
        conv => whnf
        refine ⟨_, fun w' hw' => Loads.one (by kernel_rfl) ((b317.only hw' (by simp)).pkData hpq.ok), ?_⟩
        rw [eD]
        conv => whnf
        refine ⟨_, _, rfl, 1, oD + 1, rfl, by omega, p1 _ _, ?_⟩
        conv => whnf
        refine ⟨_, fun w' hw' => Loads.one (by kernel_rfl) (Bs.ld (hGD.o hw') (getD_some (by omega))), ?_⟩
        conv => whnf
        intro w8 ho8
        have hr9 := hr8.only ho8 (by simp)
        have hP8 := hP7.on ho8
        refine hN5 _ _ ?_
        conv => whnf
        exact ⟨(0 + 1, S1, F', A7, c7, H7, z ++ [(⟨qv, O5, D5⟩ : Pl)], oX), ⟨congrArg (Value.int .i64) ei1, congrArg (fun m => Value.slice A7 m c7) (show min 0 (nk + 1) + 1 = min (0 + 1) (nk + 1) by omega), congrArg Value.bool (decide_eq_false (show ¬ 0 + 1 = 0 by omega)).symm, congrArg (Value.int .i64) (or_word64.trans hoX2), trivial⟩, ⟨by omega, .inl rfl, hP8, hr9.castn (by omega), hzz, fun _ => rfl⟩, by show nk + 17 - (0 + 1) < nk + 17 - 0; omega⟩
      · have hi0 : i ≠ 0 := of_decide_eq_false hb
        have ei1 : IntKind.i64.wrap ((i : Int) + 1) = ((i + 1 : Nat) : Int) := by rw [wi64]; omega
        conv => whnf
        refine VJoin.go (by kernel_rfl) ?_
        conv => whnf
        refine VIf.dec (fun h => ?_) (fun h => ?_)
        rotate_left
        · conv => whnf
          refine VIf.of (b := decide (i = 0)) (fun h => absurd (of_decide_eq_true h) hi0) (fun _ => ?_)
          conv => whnf
          exact ⟨(i + 1, S1, F', Ag, cg, H, z, o), ⟨congrArg (Value.int .i64) ei1, congrArg (fun m => Value.slice Ag m cg) (show min i (nk + 1) = min (i + 1) (nk + 1) by omega), congrArg Value.bool ((decide_eq_false hi0).trans (decide_eq_false (show ¬ i + 1 = 0 by omega)).symm), rfl, trivial⟩, ⟨by omega, .inl rfl, hP6, hrg6.castn (by omega), by rw [show min (i + 1) (nk + 1) = min i (nk + 1) by omega]; exact hL.hz, fun _ => hL.ho (by omega)⟩, by show nk + 17 - (i + 1) < nk + 17 - i; omega⟩
        have hin : i < nk + 1 := by omega
        conv => whnf
        refine ⟨_, Loads.all b31 (by kernel_rfl) (by rw [hql]; kernel_rfl), ?_⟩
        conv => whnf
        refine lenIs.of (Nat.succ.inj (Nat.succ.inj (Nat.succ.inj (Nat.succ.inj hql)))) ?_
        conv => whnf
        refine vFall.append3 56 46 152 rfl (by kernel_rfl) rfl (hrg6.alloc (.cells ⟨pkC qv O5 D5 ++ []⟩ 56)) rfl (Sl.new w6 56 46 (pkC qv O5 D5 ++ []) 1 (by rw [List.append_nil, hql])) (fun u hu => isOne_cell (one_pkC _ _ _ u (by rwa [List.append_nil] at hu))) (by omega) (by omega) (by omega) ?_
        intro A7 c7 H7 w7 hr7 (hde : (A7 = Ag ∧ c7 = cg ∧ H7 = H ∧ Only H (w6.alloc (.cells ⟨pkC qv O5 D5 ++ []⟩ 56)) w7) ∨ (Only [] (w6.alloc (.cells ⟨pkC qv O5 D5 ++ []⟩ 56)) w7 ∧ ∀ k ∈ H7, (w6.alloc (.cells ⟨pkC qv O5 D5 ++ []⟩ 56)).heap.size ≤ k))
        have hal := (Only.refl [] w6).alloc (.cells ⟨pkC qv O5 D5 ++ []⟩ 56)
        generalize w6.alloc _ = wd at hde hal
        rw [List.append_nil, ← pkP_id (x := ⟨qv, O5, D5⟩) hpq.ok] at hr7
        have hP7 := (hP6.on hal).append (hxq.o hal) (hde.imp (fun h => h.2.2) id) hr7.lt
        have hoH : Only H wd w7 := hde.elim (fun h => h.2.2.2) (fun h => h.1.up)
        have b317 := (b31.only hal (by simp)).only hoH (fun hm => absurd (hP5.hH _ hm).2.1 (Nat.lt_irrefl _))
        have hr8 := hr7.cast (show z.flatMap pkP ++ pkP ⟨qv, O5, D5⟩ = (z ++ [(⟨qv, O5, D5⟩ : Pl)]).flatMap pkP by rw [List.flatMap_append, List.flatMap_singleton])
        have hzz : (z ++ [(⟨qv, O5, D5⟩ : Pl)]).map (·.p) = (List.range (min (i + 1) (nk + 1))).map (fun j => parseP (ansL 12 (fourD 192 0 2 1) 4000 (dgPk (hostA eh) (peerA to) 77 D) q nk (kOf (nk + 1) cO j))) := by
          rw [show min (i + 1) (nk + 1) = i + 1 by omega, List.range_succ, List.map_append, List.map_append, hL.hz, show min i (nk + 1) = i by omega]
          simp only [List.map_cons, List.map_nil]
          rw [← hkO hin, hqv]
        conv => whnf
        refine VIf.of (b := decide (i = 0)) (fun h => absurd (of_decide_eq_true h) hi0) (fun _ => ?_)
        conv => whnf
        exact ⟨(i + 1, S1, F', A7, c7, H7, z ++ [(⟨qv, O5, D5⟩ : Pl)], o), ⟨congrArg (Value.int .i64) ei1, congrArg (fun m => Value.slice A7 m c7) (show min i (nk + 1) + 1 = min (i + 1) (nk + 1) by omega), congrArg Value.bool ((decide_eq_false hi0).trans (decide_eq_false (show ¬ i + 1 = 0 by omega)).symm), rfl, trivial⟩, ⟨by omega, .inl rfl, hP7, hr8.castn (by omega), hzz, fun _ => hL.ho (by omega)⟩, by show nk + 17 - (i + 1) < nk + 17 - i; omega⟩
  · conv => whnf
    refine VDraw.abs fun N2 hN2 => ?_
    refine VDraw.held (fun w' => Only [] wr w') [0, 2, 3, 5, 6, 7, 8, 1, 4, 9, 10] (by kernel_rfl) (by kernel_rfl) ((Only.refl [] wr).drew) ?_
    conv => whnf
    refine ⟨_, fun w' hw' => Loads.all (hP.k0.at hw').e (by kernel_rfl) (by kernel_rfl), ?_⟩
    conv => whnf
    refine ⟨_, fun w' hw' => Loads.all (hP.k0.at hw').d (by kernel_rfl) (by rw [adC_len (peer_ok to)]; kernel_rfl), ?_⟩
    conv => whnf
    refine ⟨_, fun w' hw' => Loads.all (hP.k0.at hw').e (by kernel_rfl) (by kernel_rfl), ?_⟩
    conv => whnf
    refine (endAddr_does (h := eh) (p := ep)).mono ?_
    rintro v wb ⟨rfl, hob⟩
    have hrb : Only [] wr wb := ((Only.refl [] wr).drew).t0 hob
    refine ⟨hrb, ?_⟩
    conv => whnf
    refine (endPort_does (h := eh) (p := ep)).mono ?_
    rintro v wc ⟨rfl, hoc⟩
    have hrc : Only [] wr wc := hrb.t0 hoc
    refine ⟨hrc, ?_⟩
    conv => whnf
    rw [hk]
    refine (datagram_does (host_ok eh) (peer_ok to) (pair_hp eh to) rfl (Row.bs (hP.k0.at hrc).x) (by omega) (hs.o (hP.o.t0 hrc)) hep hpt (by decide)).mono ?_
    rintro v wd ⟨Y1, nY, cY1, FY, rfl, hrY, hod, hFY⟩
    obtain rfl := (Row.bs hrY).len
    have hrd : Only [] wr wd := hrc.t0 hod
    refine ⟨hrd, ?_⟩
    refine hN2 _ _ ?_
    clear hN2 N2
    conv => whnf
    refine VJoin.go (by kernel_rfl) ?_
    conv => whnf
    have hP1 := hP.on hrd
    (refine ⟨_, Loads.all hP1.k0.here.d (by kernel_rfl) (by rw [adC_len (peer_ok to)]; kernel_rfl), ?_⟩; conv => whnf)
    (refine ⟨_, hP1.k0.here.cf.cfOutside (wideC_ok 9), ?_⟩; conv => whnf)
    rw [hk]
    refine (datagram_does (dp := 4000) (peer_ok to) (fourD_ok 192 0 2 1) (pair_po to) rfl (Row.bs hP1.k0.here.x) (by omega) (hs.o hP1.o) hpt (by decide) (by decide)).mono ?_
    rintro v wd2 ⟨Y1, nY, cY1, FY, rfl, hrY, hod2, hFY⟩
    obtain rfl := (Row.bs hrY).len
    have hrd0 := hrd
    replace hrd := hrd0.t0 hod2
    have z0 := hrd0.size
    conv => whnf
    obtain ⟨D, hDe, hDl, hD0, hD2⟩ := datagram_is (a := peerA to) (b := fourD 192 0 2 1) (sp := peerP to) (dp := 4000) (id := 78) (data := l) (k := (k : Int)) hpt (by decide) (by omega)
    rw [hDe] at hrY
    obtain ⟨e1, e2, e3, e4⟩ := pack_facts (id := 78) (d := D) (peer_is4 to) (is4_four 192 0 2 1) (by decide) (by omega) (by omega)
    rw [hDe]
    refine (own_does (Row.bs hrY) (by omega)).mono ?_
    rintro v we ⟨Z, nZ, cZ, FZ, rfl, hrZ, hoe, hFZ⟩
    obtain rfl := (Row.bs hrZ).len
    have hre := hrd.t0 hoe
    conv => whnf
    have hPd := parse_does (Row.bs hrZ) (hs.o (hP.o.t0 hre)) (by omega) hrZ.le.1 (by have := hrZ.le.2; unfold maxLen at this; exact this)
    rw [e1, e2] at hPd
    refine hPd.mono ?_
    clear hPd
    rintro v wf ⟨O1, D1, rfl, hpk, hof⟩
    have hrf := hre.t0 hof
    have hpl := pk_len (O := O1) (D := D1) hpk.ok
    conv => whnf
    refine vStore.fresh (cs := pkC (dgPk (peerA to) (fourD 192 0 2 1) 78 D) O1 D1) (by rw [hpl]; kernel_rfl) (by rw [hpl]; kernel_rfl) (one_pkC _ _ _) (fun wg b20 hog hzg => ?_)
    have hrg := hrf.t0 hog
    conv => whnf
    refine ⟨_, Loads.all b20 (by kernel_rfl) (by rw [hpl]; kernel_rfl), ?_⟩
    conv => whnf
    rw [hm0]
    obtain ⟨q, hq⟩ : ∃ q, q = (48 + m0) / 8 * 8 := ⟨_, rfl⟩
    have hq8 : q % 8 = 0 := by omega
    have h8q : 8 ≤ q := by omega
    refine (cut_does (m := 48 + m0) (q := q) ((hpk.o hog).below (Nat.zero_le _)) (hs.o (hP.o.t0 hrg)) (dgPk_right (pair_po to) rfl (by decide) (by omega)) rfl rfl rfl rfl rfl (by rw [wi64]; omega) (by omega) (show 48 + m0 < D.length by omega) hq).mono ?_
    rintro v wh ⟨LA, ln, lc, FL, zl, nk, rfl, hrL, hzl, rfl, hk0, hkq, hlast, hlong, hokl, hoh, hFL⟩
    have hdg := dgm_of (id := 78) (peer_is4 to) (is4_four 192 0 2 1) (pair_po to) (peer_ok to) (fourD_ok 192 0 2 1) (by decide) (show D.length ≤ 65515 by omega) hq8 h8q hk0 hkq
    have hnk : nk ≤ 300 := by
      have h1 : nk * 8 ≤ nk * q := Nat.mul_le_mul_left _ h8q
      have h2 : nk * q < D.length := hkq
      omega
    have hrh := hrg.t0 hoh
    conv => whnf
    refine VIf.dec (fun h => absurd h (by omega)) (fun _ => ?_)
    conv => whnf
    have hntf : ∀ x ∈ [notO eh to], x.from_ = 0 := fun x hx => by rw [List.mem_singleton.1 hx]; rfl
    have hmk : ∀ m ∈ [mapO eh ep], okAd m.addr := fun m hm => by rw [List.mem_singleton.1 hm]; exact host_ok eh
    have hnk2 : ∀ x ∈ [notO eh to], okKy x.key ∧ okAd x.addr := fun m hm => by rw [List.mem_singleton.1 hm]; exact ⟨⟨show (-9223372036854775808 : Int) ≤ 4 ∧ (4 : Int) ≤ 9223372036854775807 by decide, host_ok eh, peer_ok to, show (-9223372036854775808 : Int) ≤ 17 ∧ (17 : Int) ≤ 9223372036854775807 by decide, show (0 : Int) ≤ 77 ∧ (77 : Int) ≤ 4294967295 by decide⟩, host_ok eh⟩
    have hW : WayP 16 (hostA eh) (andI .i64 ep 65535) (dgPk (peerA to) (fourD 192 0 2 1) 78 D) q nk (fun s l => cameS s 0 l) (nS [mapO eh ep] [notO eh to] []) (nS [mapO eh ep] [notO eh to] [⟨kyP (dgPk (peerA to) (fourD 192 0 2 1) 78 D), hostA eh, 0⟩]) := way_in hdg (show (78 : Int) ≠ 79 by decide) (peer_outside to) rfl hD2 hntf
    have ok0 : okS (nS [mapO eh ep] [notO eh to] []) := okS_nS (by simp) (by simp) (by simp) hmk hnk2 (by simp)
    have ok1 : okS (nS [mapO eh ep] [notO eh to] [⟨kyP (dgPk (peerA to) (fourD 192 0 2 1) 78 D), hostA eh, 0⟩]) := okS_nS (by simp) (by simp) (by simp) hmk hnk2 (fun m hm => by rw [List.mem_singleton.1 hm]; exact ⟨⟨show (-9223372036854775808 : Int) ≤ 4 ∧ (4 : Int) ≤ 9223372036854775807 by decide, peer_ok to, fourD_ok 192 0 2 1, show (-9223372036854775808 : Int) ≤ 17 ∧ (17 : Int) ≤ 9223372036854775807 by decide, show (0 : Int) ≤ 78 ∧ (78 : Int) ≤ 4294967295 by decide⟩, host_ok eh⟩)
    generalize nS [mapO eh ep] [notO eh to] [] = S0 at hW ok0 hP
    generalize nS [mapO eh ep] [notO eh to] [⟨kyP (dgPk (peerA to) (fourD 192 0 2 1) 78 D), hostA eh, 0⟩] = S1 at hW ok1
    have hl7 : ∀ k ∈ FN, k < wr.heap.size := hP.st.lt
    have hPi : PO W T (PE q6 q12 q13 eh ep to F Y cY l) FL (PI FY Y1 cY1 (packL (dgPk (peerA to) (fourD 192 0 2 1) 78 D)) FL LA (nk + 1) lc zl wg.heap.size) S0 FN [] wh := by
      have hq := hP.on hrh
      have z1 := hrc.size
      have z2 := hrg.size
      refine ⟨hq.st, hq.hF, hq.hH, fun k hk => ⟨by have h1 := hFL k hk; have h2 := hP.o.size; omega, hrL.lt k hk, fun hm => by have h1 := hFL k hk; have h2 := hl7 k hm; omega⟩, hq.o, fun w' ho => ⟨?_, ?_, fun x hx => ?_⟩, hP.k0.go hrh.up (fun k hk => ?_)⟩
      · exact (hrY.only (((hoe.t0 hof).t0 hog).t0 hoh) (by simp)).only ho (fun k hk hm => by have h1 := hFY k hk; have h2 := hl7 k (by simpa using hm); omega)
      · exact hrL.only ho (fun k hk hm => by have h1 := hFL k hk; have h2 := hl7 k (by simpa using hm); omega)
      · exact (hokl x hx).only ho (fun k _ h1 hm => by have h2 := hl7 k (by simpa using hm); omega)
      · rcases List.mem_append.1 hk with hk | hk
        · exact .inl (List.mem_append_left _ hk)
        · have h1 := hFL k (by simpa using hk)
          exact .inr (by omega)
    have hget : ∀ (kv : Nat) (h : kv < zl.length), zl[kv].p = (piecesP (dgPk (peerA to) (fourD 192 0 2 1) 78 D) q nk).getD kv (dgPk (peerA to) (fourD 192 0 2 1) 78 D) := fun kv h => by
      have h1 : (zl.map (·.p))[kv]? = (piecesP (dgPk (peerA to) (fourD 192 0 2 1) 78 D) q nk)[kv]? := by rw [hzl]; rfl
      rw [List.getD_eq_getElem?_getD, ← h1]
      simp [h]
    have hzll : zl.length = nk + 1 := by have := congrArg List.length hzl; simpa using this
    obtain ⟨oX, hoX⟩ : ∃ oX, oX = wordL (parseP (ansL 16 (hostA eh) (andI .i64 ep 65535) (dgPk (peerA to) (fourD 192 0 2 1) 78 D) q nk 0)).data 0 := ⟨_, rfl⟩
    refine VLoop.inv (α := Nat × NatS × List Nat × Option Addr × Nat × List Nat × List Pl × Int) [(12, 13), (17, 18), (24, 33), (115, 232)]
      (fun | (i, s, F, A, c, H, z, o) => [(26, .int .i64 i), (24, .slice A (min i (nk + 1)) c), (25, .bool (decide (i = 0))), (17, .int .i64 o)])
      (fun | (i, s, F', A, c, H, z, o) => PL W T (PE q6 q12 q13 eh ep to F Y cY l) FL (PI FY Y1 cY1 (packL (dgPk (peerA to) (fourD 192 0 2 1) 78 D)) FL LA (nk + 1) lc zl wg.heap.size) S0 S1 16 (hostA eh) (andI .i64 ep 65535) (dgPk (peerA to) (fourD 192 0 2 1) 78 D) q nk cO oX i s F' A c H z o)
      (fun t => nk + 17 - t.1) (0, S0, FN, none, 0, [], [], wayO 1) (by kernel_rfl) ⟨rfl, rfl, rfl, rfl, trivial⟩ ⟨Nat.zero_le _, .inr ⟨rfl, rfl⟩, hPi.mono (fun w' h => ⟨h, by simp⟩), Row.nil _ _ _ _, rfl, fun h => absurd h (by decide)⟩ ?_
    clear hPi
    rintro ⟨i, s, FN, Ag, cg, H, z, o⟩ wi j hL
    dsimp only at hL
    have hiL := hL.hi
    conv => whnf
    rw [hand]
    refine VIf.dec (fun ht => ?_) (fun ht => ?_)
    rotate_left
    · have hti : nk + 1 ≤ i := by rw [wi64] at ht; omega
      have hmin : min i (nk + 1) = nk + 1 := by omega
      have hs1 : s = S1 := hL.hs.elim id (fun h => absurd h.1 (by omega))
      have hPs := hL.po
      rw [hs1] at hPs
      have hgF : ∀ F' : List Nat, (∀ k ∈ F', W.heap.size ≤ k) → 1 ∉ F' := fun F' h hm => by have := h _ hm; omega
      have hzk := hL.hz
      rw [hmin] at hzk
      have hDd : (dgPk (peerA to) (fourD 192 0 2 1) 78 D).data = D := rfl
      conv => whnf
      refine VJoin.go (by kernel_rfl) ?_
      conv => whnf
      refine (own_does (Row.bs hPs.k.here.1.y) (by rw [e4]; omega)).mono ?_
      rintro v w1 ⟨Z1, n1, c1, F1, rfl, hr1, ho1, hF1⟩
      obtain rfl := (Row.bs hr1).len
      have hP1 := hPs.on ho1
      conv => whnf
      have hO := in_does (now := 0) hP1.st ok1 (Row.bs hr1) (fun k hk hm => by have h1 := hF1 k hk; have h2 := hPs.st.lt k hm; omega) (hs.o hP1.o) (hgF _ hP1.hF) (by rw [e4]; omega) hr1.le.1 (by have := hr1.le.2; unfold maxLen at this; exact this)
      obtain ⟨u1, u2, u3⟩ := gone_parsed (q := 0) (n := 0) (port := andI .i64 ep 65535) (k := 16) (.inr rfl) e1 e3 e2 (host_is4 eh)
      have u4 : (endL (packL (dgPk (peerA to) (fourD 192 0 2 1) 78 D)) 16 (hostA eh) (andI .i64 ep 65535) 20).length = 20 + D.length := by rw [endL_len, e4]
      have hwho := hW.whole
      generalize endL (packL (dgPk (peerA to) (fourD 192 0 2 1) 78 D)) 16 (hostA eh) (andI .i64 ep 65535) 20 = eb at u1 u2 u4 hwho
      rw [show cameS S1 0 (packL (dgPk (peerA to) (fourD 192 0 2 1) 78 D)) = _ from hwho] at hO
      refine hO.mono ?_
      clear hO
      rintro v w2 ⟨V, cV, FV, F', rfl, hrV, hSt', ho2, hF', hFV⟩
      dsimp only at hrV hSt' hF' hFV
      have hP2 := hP1.go ho2 hSt' hF'
      have hPw := parse_does (Row.bs hrV) (hs.o hP2.o) (by omega) hrV.le.1 (by have := hrV.le.2; unfold maxLen at this; exact this)
      rw [u1, u2] at hPw
      conv => whnf
      refine hPw.mono ?_
      clear hPw
      rintro v w3 ⟨O3, D3, rfl, hp3, ho3⟩
      have hl3 := pk_len (O := O3) (D := D3) hp3.ok
      have hP3 := hP2.on ho3
      conv => whnf
      refine vStore.fresh (cs := pkC (goneP 16 (hostA eh) (andI .i64 ep 65535) (dgPk (peerA to) (fourD 192 0 2 1) 78 D)) O3 D3) (by rw [hl3]; kernel_rfl) (by rw [hl3]; kernel_rfl) (one_pkC _ _ _) (fun w4 b35 ho4 hz4 => ?_)
      have hP4 := hP3.on ho4
      obtain ⟨e, he, hzl2, hfr, hokK, hperm, hlast2⟩ := frags_gone (.inr rfl) hdg (host_is4 eh) hzk
      have hi4 : Only FN wi w4 := ((ho1.zf ho2).f0 ho3).f0 ho4
      have hrg4 := hL.g.only hi4 (fun k hk => (hL.po.hH k hk).2.2)
      conv => whnf
      have hgl : (turnD (wasP 16 (dgPk (peerA to) (fourD 192 0 2 1) 78 D)) (dgPk (peerA to) (fourD 192 0 2 1) 78 D).data ((16 - 12) / 2) (hostA eh) (andI .i64 ep 65535)).length = D.length := turnD_len
      refine (join_does (e := e) hrg4.sl (by omega) (by omega) hP4.k.here.2 hfr hokK (by omega) (hs.o hP4.o) hperm (gone_chain (.inr rfl) h8q hk0 hkq) (by rw [hgl]; omega) (by rw [hgl]; exact hlast2) (gone_whole hdg) u3).mono ?_
      rintro v w5 ⟨O5, D5, rfl, hO5, ho5⟩
      have hP5 := hP4.on ho5
      have hl5 := pk_len (O := O5) (D := D5) hp3.ok
      conv => whnf
      refine vStore.fresh (cs := pkC (goneP 16 (hostA eh) (andI .i64 ep 65535) (dgPk (peerA to) (fourD 192 0 2 1) 78 D)) O5 D5) (by rw [hl5]; kernel_rfl) (by rw [hl5]; kernel_rfl) (one_pkC _ _ _) (fun w6 b37 ho6 hz6 => ?_)
      have hP6 := hP5.on ho6
      have b35x := b35.only (ho5.t0 ho6) (by simp)
      conv => whnf
      (refine ⟨_, b37.pkAll hp3.ok, ?_⟩; conv => whnf)
      (refine ⟨_, b35x.pkAll hp3.ok, ?_⟩; conv => whnf)
      have hgd : (goneP 16 (hostA eh) (andI .i64 ep 65535) (dgPk (peerA to) (fourD 192 0 2 1) 78 D)).data.length = D.length := turnD_len
      refine (sameP_does (hO5.pks.o ho6) (hp3.o ((ho4.t0 ho5).t0 ho6)) ⟨by show ([] : List UInt8).length ≤ 65535; simp, by rw [hgd]; omega⟩).mono ?_
      rintro v w7 ⟨rfl, ho7⟩
      have hP7 := hP6.on ho7
      have hrl := hP7.k.here.1.l
      have hokl7 := hP7.k.here.1.ok
      obtain ⟨gl, cur, rfl, rfl, -⟩ := hrl.blk (by have := hrl.le; omega)
      conv => whnf
      refine ⟨_, _, rfl, 1, 0 + 1 * 46, rfl, by omega, rfl, ?_⟩
      conv => whnf
      obtain ⟨hst8, hr8, ho8⟩ := Row.putAt (P := Tryz.prog) (t := 54) (i := 1) (j := 39) (v := .int .u32 79) (x := ⟨{ zl[1].p with id := 79 }, zl[1].O, zl[1].D⟩) hrl pkP_len (by kernel_rfl) rfl (by omega) hzll (by decide) (pkP_setId _ _)
      refine ⟨_, hst8, ?_⟩
      generalize w7.setCell _ _ = w8 at hr8 ho8
      conv => whnf
      have hP8 := hP7.fin ho8
      have hx1 := hokl7 zl[1] (List.getElem_mem _)
      have hpe1 := hget 1 (by omega)
      obtain ⟨x9, hx9, hxo, hxr, hxi, hxe, hxp, -, -, -, -, -⟩ := hdg.other (show (78 : Int) ≠ 79 by decide)
      rw [← hpe1] at hx9
      have hoth := hW.other
      rw [← hpe1, ← hx9] at hoth
      have hel9 : Loads Tryz.prog 56 ⟨gl, 0 + 1 * 46, none⟩ w8 (.agg ⟨pkC x9 zl[1].O zl[1].D⟩) := by
        have h1 := Sl.elem (P := Tryz.prog) (t := 56) (i := 1) hr8.sl pkP_len (by rw [List.length_set]; omega) (by kernel_rfl) (by kernel_rfl)
        rw [List.getElem_set_self, ← hx9, pkP_id (x := ⟨x9, zl[1].O, zl[1].D⟩) hxo] at h1
        exact h1
      have hpk9 : Pks w8 x9 zl[1].O zl[1].D 0 := by
        have h1 := (hx1.f ho8).pks.below (Nat.zero_le _)
        have ho9 : x9.opts = zl[1].p.opts := by rw [hx9]
        have hd9 : x9.data = zl[1].p.data := by rw [hx9]
        exact ⟨hxo, by rw [ho9]; exact h1.opts, by rw [hd9]; exact h1.data, by rw [ho9]; exact h1.oc, by rw [hd9]; exact h1.dc, by rw [ho9]; exact h1.ol, by rw [hd9]; exact h1.dl⟩
      have hR9 := rgt_of hxr
      have hll9 := hR9.len
      obtain ⟨-, -, -, hlen9⟩ := pack_any hxo hxr (by rw [hxi]; decide)
      clear hx9 hxe hxp hx1 hpe1 hokl7
      refine ⟨_, _, rfl, 1, 0 + 1 * 46, rfl, by omega, rfl, ?_⟩
      conv => whnf
      refine ⟨_, hel9, ?_⟩
      conv => whnf
      refine (ownP_does hpk9 (by omega) (by omega)).mono ?_
      rintro v wa ⟨Oa, Da, rfl, hOa, hoa⟩
      have hPa := hP8.on hoa
      conv => whnf
      have hBd := ipBuild_does (hOa.pks.below (Nat.zero_le _)) (hs.o hPa.o) hxr (by show 0 ≤ x9.id; rw [hxi]; decide)
      dsimp only at hBd
      generalize packL x9 = xb at hBd hlen9 hoth
      refine hBd.mono ?_
      clear hBd
      rintro v wb ⟨AB, cB, FB, rfl, hrB, hob, hFB⟩
      have hPb := hPa.on hob
      conv => whnf
      refine VJoin.go (by kernel_rfl) ?_
      conv => whnf
      have hO := in_does (now := 0) hPb.st ok1 (Row.bs hrB) (fun k hk hm => by have h1 := hFB k hk; have h2 := hPa.st.lt k hm; omega) (hs.o hPb.o) (hgF _ hPb.hF) (by omega) hrB.le.1 (by have := hrB.le.2; unfold maxLen at this; exact this)
      rw [show cameS S1 0 xb = _ from hoth] at hO
      refine hO.mono ?_
      clear hO
      rintro v wc2 ⟨V9, cV9, FV9, F9, rfl, hrV9, hSt9, hoc9, hF9, hFV9⟩
      have hPc := hPb.go hoc9 hSt9 hF9
      conv => whnf
      exact ⟨(2, S1, F9), ⟨rfl, rfl, trivial⟩, ⟨.inr (.inr rfl), hPc⟩, show (2 - (2 : Int)).toNat < (2 - (1 : Int)).toNat by decide⟩
    · have ht : i < nk + 1 + n % 16 := by rw [wi64] at ht; omega
      conv => whnf
      have hWi := hL.po.o
      refine VJoin.cut (α := Nat) [(27, 28), (126, 159)] (fun kv => [(27, .int .i64 kv)]) (fun kv w' => w' = wi ∧ kv < nk + 1 ∧ (i < nk + 1 → kv = kOf (nk + 1) cO i)) (by kernel_rfl) ?_ ?_
      · conv => whnf
        refine VIf.dec (fun h1 => ?_) (fun h1 => ?_)
        · have h1 : nk + 1 ≤ i := by omega
          have hn0 : 0 < n := by omega
          obtain ⟨b, off, rfl, -⟩ := hz.2 hn0
          have e1 : IntKind.i64.wrap ((i : Int) - ((nk + 1 : Nat) : Int)) = ((i - (nk + 1) : Nat) : Int) := by rw [wi64]; omega
          conv => whnf
          refine ⟨_, _, rfl, i - (nk + 1), off + (i - (nk + 1)), e1, by omega, p1 _ _, ?_⟩
          conv => whnf
          refine ⟨.int .i64 (order.getD (i - (nk + 1)) 0), Loads.one (by kernel_rfl) ((hz.o hWi).ld (by rw [List.getElem?_map, List.getD_eq_getElem?_getD, List.getElem?_eq_getElem (by omega)]; rfl)), ?_⟩
          generalize order.getD (i - (nk + 1)) 0 = ov
          have hov := and65535n (x := ov)
          conv => whnf
          refine ⟨((andI .i64 ov 65535).tmod ((nk + 1 : Nat) : Int)).toNat, ⟨?_, trivial⟩, rfl, ?_, fun h => absurd h (by omega)⟩
          · have := Int.tmod_nonneg ((nk + 1 : Nat) : Int) hov.1
            refine congrArg (Value.int .i64) ?_
            omega
          · have := Int.tmod_lt_of_pos (andI .i64 ov 65535) (show (0 : Int) < ((nk + 1 : Nat) : Int) by omega)
            omega
        · have h1 : i < nk + 1 := by omega
          conv => whnf
          refine VIf.dec (fun h2 => ?_) (fun h2 => ?_)
          rotate_left
          · conv => whnf
            obtain rfl : i = 0 := by omega
            exact ⟨0, ⟨rfl, trivial⟩, rfl, by omega, fun _ => rfl⟩
          have hi0 : i ≠ 0 := by omega
          conv => whnf
          refine VIf.dec (fun h3 => ?_) (fun h3 => ?_)
          rotate_left
          · conv => whnf
            refine ⟨i, ⟨rfl, trivial⟩, rfl, by omega, fun _ => ?_⟩
            rw [hcO, if_pos (by omega), kOf, if_neg hi0]
          have hn0 : 0 < n := by omega
          obtain ⟨b, off, rfl, -⟩ := hz.2 hn0
          conv => whnf
          refine ⟨_, _, rfl, 0, off + 0, rfl, by omega, p1 _ _, ?_⟩
          conv => whnf
          refine ⟨.int .i64 (order.getD 0 0), Loads.one (by kernel_rfl) ((hz.o hWi).ld (by rw [List.getElem?_map, List.getD_eq_getElem?_getD, List.getElem?_eq_getElem (by omega)]; rfl)), ?_⟩
          have hck : kOf (nk + 1) cO i = 1 + (i + (andI .i64 (order.getD 0 0) 65535).toNat) % nk := by
            rw [hcO, if_neg (by omega), kOf, if_neg hi0]
            rfl
          generalize order.getD 0 0 = ov at hck ⊢
          have hov := and65535n (x := ov)
          obtain ⟨av, hav⟩ : ∃ k : Nat, andI .i64 ov 65535 = (k : Int) := ⟨(andI .i64 ov 65535).toNat, by omega⟩
          rw [hav] at hck hov
          have hmod := Nat.mod_lt (i + av) (show 0 < nk by omega)
          have e1 : IntKind.i64.wrap ((i : Int) + (av : Int)) = ((i + av : Nat) : Int) := by rw [wi64]; omega
          have e2 : IntKind.i64.wrap (((nk + 1 : Nat) : Int) - 1) = (nk : Int) := by rw [wi64]; omega
          have e3 : IntKind.i64.wrap (1 + (((i + av) % nk : Nat) : Int)) = ((1 + (i + av) % nk : Nat) : Int) := by rw [wi64]; omega
          conv => whnf
          refine nz.of (by rw [e2]; omega) ?_
          conv => whnf
          refine ⟨1 + (i + av) % nk, ⟨?_, trivial⟩, rfl, by omega, fun _ => ?_⟩
          · show Value.int .i64 (IntKind.i64.wrap (1 + (IntKind.i64.wrap ((i : Int) + andI .i64 ov 65535)).tmod (IntKind.i64.wrap (((nk + 1 : Nat) : Int) - 1)))) = _
            rw [hav, e1, e2, show ((i + av : Nat) : Int).tmod (nk : Int) = (((i + av) % nk : Nat) : Int) from rfl, e3]
          · rw [hck, Int.toNat_natCast]
      rintro kv wx j2 ⟨rfl, hkv, hkO⟩
      have hkv2 : kv < zl.length := by omega
      have hlsl := hL.po.k.here.1.l.sl
      obtain ⟨bl, offl, rfl, -⟩ := hlsl.2 (by omega)
      have hel : ∀ w', Only [] wx w' → Loads Tryz.prog 56 ⟨bl, offl + kv * 46, none⟩ w' (.agg ⟨pkC zl[kv].p zl[kv].O zl[kv].D⟩) := fun w' hw' => by
        rw [← pkP_id (hokl _ (List.getElem_mem hkv2)).ok]
        exact Sl.elem (hlsl.o hw') pkP_len hkv2 (by kernel_rfl) (by kernel_rfl)
      have hPz : PlOk wx wg.heap.size FL zl[kv] := hL.po.k.here.1.ok _ (List.getElem_mem hkv2)
      have hpe := hget kv hkv2
      generalize zl[kv] = zv at hel hPz hpe
      obtain ⟨pv, Ov, Dv⟩ := zv
      dsimp only at hel hpe
      have hpm : pv ∈ piecesP (dgPk (peerA to) (fourD 192 0 2 1) 78 D) q nk := by
        rw [hpe, List.getD_eq_getElem?_getD, List.getElem?_eq_getElem (by rw [pieces_len]; exact hkv)]
        exact List.getElem_mem _
      have hrt := pieces_right hdg.rt hdg.q8 hdg.le8 hdg.more hdg.nq _ hpm
      obtain ⟨g1, g2, g3, g4⟩ := hdg.laid hpm
      obtain ⟨-, -, -, -, -, -, s7, s8⟩ := hdg.same hpm
      conv => whnf
      refine ⟨_, _, rfl, kv, offl + kv * 46, rfl, by omega, rfl, ?_⟩
      conv => whnf
      refine ⟨_, hel wx (Only.refl _ _), ?_⟩
      conv => whnf
      refine (ownP_does hPz.pks (by show pv.opts.length ≤ 65535; rw [s8]; exact Nat.zero_le _) (by have h1 := (rgt_of hrt).len; show pv.data.length ≤ 65535; omega)).mono ?_
      rintro v w1 ⟨O2, D2, rfl, hO2, ho1⟩
      conv => whnf
      refine (ipBuild_does (hO2.pks.below (Nat.zero_le _)) (hs.o (hWi.t0 ho1)) hrt (by rw [s7]; show (0 : Int) ≤ 78; decide)).mono ?_
      rintro v w2 ⟨AB, cB, FB, rfl, hrB, ho2, hFB⟩
      have hx2 := ho1.t0 ho2
      conv => whnf
      refine VJoin.go (by kernel_rfl) ?_
      conv => whnf
      have hP2 := hL.po.on hx2
      have hst2 := hP2.st.lt
      have hsx : s = S1 ∨ (kv = 0 ∧ s = S0) := by
        rcases hL.hs with h | ⟨h, h'⟩
        · exact .inl h
        · subst h
          exact .inr ⟨hkO (by omega), h'⟩
      have hoks : okS s := by
        rcases hL.hs with h | ⟨-, h⟩
        · exact h ▸ ok1
        · exact h ▸ ok0
      have hans := hW.frag kv hkv s hsx
      rw [← hpe] at hans
      have hgF : ∀ F' : List Nat, (∀ k ∈ F', W.heap.size ≤ k) → 1 ∉ F' := fun F' h hm => by have := h _ hm; omega
      have hO := in_does (now := 0) hP2.st hoks (Row.bs hrB) (fun k hk hm => by have h1 := hFB k hk; have h2 := hL.po.st.lt k hm; have h3 := ho1.size; omega) (hs.o hP2.o) (hgF _ hP2.hF) (by rw [g4]; have := (rgt_of hrt).len; omega) hrB.le.1 (by have := hrB.le.2; unfold maxLen at this; exact this)
      rw [show cameS s 0 (packL pv) = _ from hans] at hO
      refine hO.mono ?_
      clear hO
      rintro v w3 ⟨V, cV, FV, F', rfl, hrV, hSt', ho3, hF', hFV⟩
      dsimp only at hrV hSt' hF' hFV
      have hP3 := hP2.go ho3 hSt' hF'
      obtain ⟨f1, f2⟩ := ans_parsed (port := andI .i64 ep 65535) (k := 16) (.inr rfl) hdg (host_is4 eh) hkv
      have hal2 := hrV.le
      conv => whnf
      refine (own_does (Row.bs hrV) (by rw [ans_len, ← hpe, g4]; have := (rgt_of hrt).len; omega)).mono ?_
      rintro v w4 ⟨Z4, n4, c4, F4, rfl, hr4, ho4, hF4⟩
      obtain rfl := (Row.bs hr4).len
      conv => whnf
      have hP4 := hP3.on ho4
      have hPq := parse_does (Row.bs hr4) (hs.o hP4.o) (by rw [ans_len, ← hpe, g4]; have := (rgt_of hrt).len; omega) hr4.le.1 (by have := hr4.le.2; unfold maxLen at this; exact this)
      obtain ⟨d1, d2, d3⟩ := ans_data (port := andI .i64 ep 65535) (k := 16) (i := kv) (.inr rfl) hdg (host_is4 eh) hkv
      generalize hqv : parseP (ansL 16 (hostA eh) (andI .i64 ep 65535) (dgPk (peerA to) (fourD 192 0 2 1) 78 D) q nk kv) = qv at hPq d1 d2 d3 f2
      rw [f1] at hPq
      refine hPq.mono ?_
      clear hPq
      rintro v w5 ⟨O5, D5, rfl, hpq, ho5⟩
      have hP5 := hP4.on ho5
      have hql := pk_len (O := O5) (D := D5) hpq.ok
      conv => whnf
      refine vStore.fresh (cs := pkC qv O5 D5) (by rw [hql]; kernel_rfl) (by rw [hql]; kernel_rfl) (one_pkC _ _ _) (fun w6 b31 ho6 hz6 => ?_)
      have hP6 := hP5.on ho6
      conv => whnf
      have hx6 : Only FN wx w6 := (((hx2.zf ho3).f0 ho4).f0 ho5).f0 ho6
      have hrg6 := hL.g.only hx6 (fun k hk => (hL.po.hH k hk).2.2)
      have hxq : PlOk w6 w4.heap.size (F' ++ H) ⟨qv, O5, D5⟩ := (hpq.pl (fun k hk => by
        rcases List.mem_append.1 hk with hk | hk
        · have := hP4.st.lt k hk
          omega
        · exact (hP4.hH k hk).2.1)).o ho6
      (refine ⟨_, Loads.one (by kernel_rfl) (b31.pkData hpq.ok), ?_⟩; conv => whnf)
      refine VIf.dec (fun h => absurd h (by omega)) (fun _ => ?_)
      conv => whnf
      refine VIf.of (b := decide (i = 0)) (fun hb => ?_) (fun hb => ?_)
      · obtain rfl : i = 0 := of_decide_eq_true hb
        obtain rfl : kv = 0 := hkO (by omega)
        obtain ⟨d4, d5⟩ := d3 rfl
        conv => whnf
        (refine ⟨_, Loads.one (by kernel_rfl) (b31.pkData hpq.ok), ?_⟩; conv => whnf)
        refine VIf.dec (fun h => absurd h (by omega)) (fun _ => ?_)
        conv => whnf
        have hin : 0 < nk + 1 := by omega
        have ei1 : IntKind.i64.wrap ((0 : Nat) + 1 : Int) = ((0 + 1 : Nat) : Int) := rfl
        obtain ⟨GD5, hGD5, hGD5l⟩ := hxq.data
        obtain ⟨bD, oD, eD, -⟩ := hGD5.some_ d1
        have hoX2 : wordL qv.data 0 = oX := by rw [hoX, hqv]
        refine VJoin.go (by kernel_rfl) ?_
        conv => whnf
        refine VIf.dec (fun _ => ?_) (fun h => absurd (show ((0 : Nat) : Int) < ((nk + 1 : Nat) : Int) by omega) h)
        conv => whnf
        refine ⟨_, Loads.all b31 (by kernel_rfl) (by rw [hql]; kernel_rfl), ?_⟩
        conv => whnf
        refine lenIs.of (Nat.succ.inj (Nat.succ.inj (Nat.succ.inj (Nat.succ.inj hql)))) ?_
        conv => whnf
        refine vFall.append3 56 46 152 rfl (by kernel_rfl) rfl (hrg6.alloc (.cells ⟨pkC qv O5 D5 ++ []⟩ 56)) rfl (Sl.new w6 56 46 (pkC qv O5 D5 ++ []) 1 (by rw [List.append_nil, hql])) (fun u hu => isOne_cell (one_pkC _ _ _ u (by rwa [List.append_nil] at hu))) (by omega) (by omega) (by omega) ?_
        intro A7 c7 H7 w7 hr7 (hde : (A7 = Ag ∧ c7 = cg ∧ H7 = H ∧ Only H (w6.alloc (.cells ⟨pkC qv O5 D5 ++ []⟩ 56)) w7) ∨ (Only [] (w6.alloc (.cells ⟨pkC qv O5 D5 ++ []⟩ 56)) w7 ∧ ∀ k ∈ H7, (w6.alloc (.cells ⟨pkC qv O5 D5 ++ []⟩ 56)).heap.size ≤ k))
        have hal := (Only.refl [] w6).alloc (.cells ⟨pkC qv O5 D5 ++ []⟩ 56)
        generalize w6.alloc _ = wd at hde hal
        rw [List.append_nil, ← pkP_id (x := ⟨qv, O5, D5⟩) hpq.ok] at hr7
        have hP7 := (hP6.on hal).append (hxq.o hal) (hde.imp (fun h => h.2.2) id) hr7.lt
        have hoH : Only H wd w7 := hde.elim (fun h => h.2.2.2) (fun h => h.1.up)
        have b317 := (b31.only hal (by simp)).only hoH (fun hm => absurd (hP5.hH _ hm).2.1 (Nat.lt_irrefl _))
        have hr8 := hr7.cast (show z.flatMap pkP ++ pkP ⟨qv, O5, D5⟩ = (z ++ [(⟨qv, O5, D5⟩ : Pl)]).flatMap pkP by rw [List.flatMap_append, List.flatMap_singleton])
        have hzz : (z ++ [(⟨qv, O5, D5⟩ : Pl)]).map (·.p) = (List.range (min (0 + 1) (nk + 1))).map (fun j => parseP (ansL 16 (hostA eh) (andI .i64 ep 65535) (dgPk (peerA to) (fourD 192 0 2 1) 78 D) q nk (kOf (nk + 1) cO j))) := by
          rw [show min (0 + 1) (nk + 1) = 0 + 1 by omega, List.range_succ, List.map_append, List.map_append, hL.hz, show min 0 (nk + 1) = 0 by omega]
          simp only [List.map_cons, List.map_nil]
          rw [← hkO (by omega), hqv]
        conv => whnf
        have hGD := (hGD5.o hal).only hoH (fun k hk hm => (hGD5l k hk).2.1 (List.mem_append_right _ hm))
        simp only [] at hGD
        rw [eD] at hGD
        refine VDraw.abs fun N5 hN5 => ?_
        refine VDraw.q (by kernel_rfl) (by kernel_rfl) ?_
        conv => whnf
        refine ⟨_, fun w' hw' => Loads.one (by kernel_rfl) ((b317.only hw' (by simp)).pkData hpq.ok), ?_⟩
        rw [eD]
        conv => whnf
        refine ⟨_, _, rfl, 0, oD + 0, rfl, by omega, p1 _ _, ?_⟩
        conv => whnf
        refine ⟨_, fun w' hw' => Loads.one (by kernel_rfl) (Bs.ld (hGD.o hw') (getD_some (by omega))), ?_⟩
        conv => whnf
        refine ⟨_, fun w' hw' => Loads.one (by kernel_rfl) ((b317.only hw' (by simp)).pkData hpq.ok), ?_⟩
        rw [eD]
        conv => whnf
        refine ⟨_, _, rfl, 1, oD + 1, rfl, by omega, p1 _ _, ?_⟩
        conv => whnf
        refine ⟨_, fun w' hw' => Loads.one (by kernel_rfl) (Bs.ld (hGD.o hw') (getD_some (by omega))), ?_⟩
        conv => whnf
        intro w8 ho8
        have hr9 := hr8.only ho8 (by simp)
        have hP8 := hP7.on ho8
        refine hN5 _ _ ?_
        conv => whnf
        exact ⟨(0 + 1, S1, F', A7, c7, H7, z ++ [(⟨qv, O5, D5⟩ : Pl)], oX), ⟨congrArg (Value.int .i64) ei1, congrArg (fun m => Value.slice A7 m c7) (show min 0 (nk + 1) + 1 = min (0 + 1) (nk + 1) by omega), congrArg Value.bool (decide_eq_false (show ¬ 0 + 1 = 0 by omega)).symm, congrArg (Value.int .i64) (or_word64.trans hoX2), trivial⟩, ⟨by omega, .inl rfl, hP8, hr9.castn (by omega), hzz, fun _ => rfl⟩, by show nk + 17 - (0 + 1) < nk + 17 - 0; omega⟩
      · have hi0 : i ≠ 0 := of_decide_eq_false hb
        have ei1 : IntKind.i64.wrap ((i : Int) + 1) = ((i + 1 : Nat) : Int) := by rw [wi64]; omega
        conv => whnf
        refine VJoin.go (by kernel_rfl) ?_
        conv => whnf
        refine VIf.dec (fun h => ?_) (fun h => ?_)
        rotate_left
        · conv => whnf
          refine VIf.of (b := decide (i = 0)) (fun h => absurd (of_decide_eq_true h) hi0) (fun _ => ?_)
          conv => whnf
          exact ⟨(i + 1, S1, F', Ag, cg, H, z, o), ⟨congrArg (Value.int .i64) ei1, congrArg (fun m => Value.slice Ag m cg) (show min i (nk + 1) = min (i + 1) (nk + 1) by omega), congrArg Value.bool ((decide_eq_false hi0).trans (decide_eq_false (show ¬ i + 1 = 0 by omega)).symm), rfl, trivial⟩, ⟨by omega, .inl rfl, hP6, hrg6.castn (by omega), by rw [show min (i + 1) (nk + 1) = min i (nk + 1) by omega]; exact hL.hz, fun _ => hL.ho (by omega)⟩, by show nk + 17 - (i + 1) < nk + 17 - i; omega⟩
        have hin : i < nk + 1 := by omega
        conv => whnf
        refine ⟨_, Loads.all b31 (by kernel_rfl) (by rw [hql]; kernel_rfl), ?_⟩
        conv => whnf
        refine lenIs.of (Nat.succ.inj (Nat.succ.inj (Nat.succ.inj (Nat.succ.inj hql)))) ?_
        conv => whnf
        refine vFall.append3 56 46 152 rfl (by kernel_rfl) rfl (hrg6.alloc (.cells ⟨pkC qv O5 D5 ++ []⟩ 56)) rfl (Sl.new w6 56 46 (pkC qv O5 D5 ++ []) 1 (by rw [List.append_nil, hql])) (fun u hu => isOne_cell (one_pkC _ _ _ u (by rwa [List.append_nil] at hu))) (by omega) (by omega) (by omega) ?_
        intro A7 c7 H7 w7 hr7 (hde : (A7 = Ag ∧ c7 = cg ∧ H7 = H ∧ Only H (w6.alloc (.cells ⟨pkC qv O5 D5 ++ []⟩ 56)) w7) ∨ (Only [] (w6.alloc (.cells ⟨pkC qv O5 D5 ++ []⟩ 56)) w7 ∧ ∀ k ∈ H7, (w6.alloc (.cells ⟨pkC qv O5 D5 ++ []⟩ 56)).heap.size ≤ k))
        have hal := (Only.refl [] w6).alloc (.cells ⟨pkC qv O5 D5 ++ []⟩ 56)
        generalize w6.alloc _ = wd at hde hal
        rw [List.append_nil, ← pkP_id (x := ⟨qv, O5, D5⟩) hpq.ok] at hr7
        have hP7 := (hP6.on hal).append (hxq.o hal) (hde.imp (fun h => h.2.2) id) hr7.lt
        have hoH : Only H wd w7 := hde.elim (fun h => h.2.2.2) (fun h => h.1.up)
        have b317 := (b31.only hal (by simp)).only hoH (fun hm => absurd (hP5.hH _ hm).2.1 (Nat.lt_irrefl _))
        have hr8 := hr7.cast (show z.flatMap pkP ++ pkP ⟨qv, O5, D5⟩ = (z ++ [(⟨qv, O5, D5⟩ : Pl)]).flatMap pkP by rw [List.flatMap_append, List.flatMap_singleton])
        have hzz : (z ++ [(⟨qv, O5, D5⟩ : Pl)]).map (·.p) = (List.range (min (i + 1) (nk + 1))).map (fun j => parseP (ansL 16 (hostA eh) (andI .i64 ep 65535) (dgPk (peerA to) (fourD 192 0 2 1) 78 D) q nk (kOf (nk + 1) cO j))) := by
          rw [show min (i + 1) (nk + 1) = i + 1 by omega, List.range_succ, List.map_append, List.map_append, hL.hz, show min i (nk + 1) = i by omega]
          simp only [List.map_cons, List.map_nil]
          rw [← hkO hin, hqv]
        conv => whnf
        refine VIf.of (b := decide (i = 0)) (fun h => absurd (of_decide_eq_true h) hi0) (fun _ => ?_)
        conv => whnf
        exact ⟨(i + 1, S1, F', A7, c7, H7, z ++ [(⟨qv, O5, D5⟩ : Pl)], o), ⟨congrArg (Value.int .i64) ei1, congrArg (fun m => Value.slice A7 m c7) (show min i (nk + 1) + 1 = min (i + 1) (nk + 1) by omega), congrArg Value.bool ((decide_eq_false hi0).trans (decide_eq_false (show ¬ i + 1 = 0 by omega)).symm), rfl, trivial⟩, ⟨by omega, .inl rfl, hP7, hr8.castn (by omega), hzz, fun _ => hL.ho (by omega)⟩, by show nk + 17 - (i + 1) < nk + 17 - i; omega⟩
end Go.Proofs.YtofomopdaponbaaGreatDoor
