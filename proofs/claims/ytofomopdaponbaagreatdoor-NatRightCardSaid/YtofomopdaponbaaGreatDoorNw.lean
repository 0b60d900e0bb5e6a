/-
  Bytes that are cloned, and read from the front (package wire's Reader, as long as there are bytes enough).
-/
import Derived.Test.YtofomopdaponbaaGreatDoorAp
import Derived.Test.YtofomopdaponbaaGreatDoorProg
namespace Go.Proofs.YtofomopdaponbaaGreatDoor
open Go.RowKit
set_option linter.unusedVariables false

set_option maxRecDepth 100000 in
theorem cloneB_does {w : World} {G : List Nat} {A : Option Addr} {n c : Nat} {l : List UInt8} (h : Bs w G A n l) (hn : n ≤ 140737488355328) :
    Does Tryz.prog 50 [.slice A n c] w (fun v w' => Own w w' 5 1 (l.map u8) v) := by
  refine Does.enter (fn := Tryz.f50) (by kernel_rfl) rfl (by kernel_rfl) (by kernel_rfl) ?_
  cases A with
  | none =>
    obtain ⟨rfl, rfl⟩ := h.nil_
    conv => whnf
    exact Own.nil _ _ _
  | some a =>
    conv => whnf
    have h2 := h.o ((Only.refl [] w).alloc (.cells ⟨[]⟩ 5))
    refine vFall.append 5 1 1 rfl (by kernel_rfl) rfl (Row.nil _ _ _ _) rfl h2 (one_u8 l) (by omega) (by omega) ?_
    intro A' c' F' w' hr ho hF
    conv => whnf
    refine ⟨A', 0 + n, c', F', rfl, by simpa using hr, ((Only.refl [] w).alloc _).t0 ho, fun k hk => ?_⟩
    rcases hF k hk with h | h
    · cases h
    · simp at h; omega
/-- A reader: block R; what it has not read yet. -/
structure Rd (w : World) (R : Nat) (l : List UInt8) : Prop where
  ex : ∃ A n c G, Blk w R 244 ⟨[.slice A n c, .int .i64 0]⟩ ∧ Bs w G A n l ∧ n ≤ c ∧ ∀ k ∈ G, k < R
theorem Rd.only {w w' : World} {R : Nat} {l : List UInt8} (h : Rd w R l) (ho : Only [] w w') : Rd w' R l := by
  obtain ⟨A, n, c, G, hb, hs, hn, hG⟩ := h.ex
  exact ⟨A, n, c, G, hb.only ho (by simp), hs.o ho, hn, hG⟩
theorem Rd.far {w w' : World} {R g : Nat} {l : List UInt8} (h : Rd w R l) (ho : Only [g] w w') (hR : R < g) : Rd w' R l := by
  obtain ⟨A, n, c, G, hb, hs, hn, hG⟩ := h.ex
  exact ⟨A, n, c, G, hb.only ho (by simp; omega), hs.only ho (fun k hk => by have := hG k hk; simp; omega), hn, hG⟩
theorem Rd.lt {w : World} {R : Nat} {l : List UInt8} (h : Rd w R l) : R < w.heap.size := by
  obtain ⟨A, n, c, G, hb, hs, hn, hG⟩ := h.ex
  exact hb.lt
set_option maxRecDepth 100000 in
theorem newReader_does {w : World} {G : List Nat} {A : Option Addr} {n c : Nat} {l : List UInt8} (h : Bs w G A n l) (hn : n ≤ 140737488355328) :
    Does Tryz.prog 144 [.slice A n c] w (fun v w' => ∃ R, v = .pointer (some ⟨R, 0, none⟩) ∧ Rd w' R l ∧ Only [] w w' ∧ w.heap.size ≤ R) := by
  refine Does.enter (fn := Tryz.f144) (by kernel_rfl) rfl (by kernel_rfl) (by kernel_rfl) ?_
  conv => whnf
  refine (cloneB_does h hn).mono ?_
  intro v w1 hv
  obtain ⟨A', c', G', rfl, hb, hc, -, ho, hG⟩ := hv.bs
  conv => whnf
  have hs := ho.size
  exact ⟨w1.heap.size, rfl, ⟨A', l.length, c', G', Blk.new _ _ _, hb.o ((Only.refl [] w1).alloc _), hc, fun k hk => (hG k hk).2⟩, ho.t0 ((Only.refl [] w1).alloc _), hs⟩
set_option maxRecDepth 100000 in
theorem take_does {w : World} {R : Nat} {l : List UInt8} {k : Nat} (h : Rd w R l) (hk : k ≤ l.length) :
    Does Tryz.prog 208 [.pointer (some ⟨R, 0, none⟩), .int .i64 k] w (fun v w' => ∃ A c G, v = .tuple ⟨[.slice A k c, .bool true]⟩ ∧ Bs w' G A k (l.take k) ∧ R ∉ G ∧ Rd w' R (l.drop k) ∧ Only [R] w w') := by
  obtain ⟨A, n, c, G, hb, hs, hn, hGR⟩ := h.ex
  have hG : R ∉ G := fun hm => Nat.lt_irrefl _ (hGR _ hm)
  have hl := hs.len
  refine Does.enter (fn := Tryz.f208) (by kernel_rfl) rfl (by kernel_rfl) (by kernel_rfl) ?_
  conv => whnf
  refine ⟨_, Loads.one (by kernel_rfl) (hb.at (i := 1) rfl), ?_⟩
  conv => whnf
  refine ⟨_, Loads.one (by kernel_rfl) (hb.at (i := 0) rfl), ?_⟩
  conv => whnf
  refine VIf.dec (fun ht => absurd ht (by omega)) (fun ht => ?_)
  conv => whnf
  refine ⟨_, Loads.one (by kernel_rfl) (hb.at (i := 0) rfl), ?_⟩
  conv => whnf
  refine ⟨0, k, c, rfl, rfl, rfl, by omega, by omega, Nat.le_refl _, _, k - 0, c - 0, rfl, rfl, rfl, ?_⟩
  conv => whnf
  refine ⟨_, Loads.one (by kernel_rfl) (hb.at (i := 0) rfl), ?_⟩
  conv => whnf
  refine ⟨k, n, c, rfl, rfl, rfl, by omega, by omega, Nat.le_refl _, _, n - k, c - k, rfl, rfl, rfl, ?_⟩
  conv => whnf
  refine ⟨_, Stores.one (by kernel_rfl) rfl (hb.at (i := 0) rfl) (hb.frozen _), ?_⟩
  conv => whnf
  have ho : Only [R] w (w.setCell ⟨R, 0, none⟩ (.slice (if c = k then A else A.map (·.add (k * 1))) (n - k) (c - k))) := (Only.refl _ w).put (.inl (by simp))
  have h1 := hs.cut (lo := 0) (hi := k) (m := c) (by omega) (by omega) (by omega) rfl
  have h2 := hs.cut (lo := k) (hi := n) (m := c) (by omega) (by omega) (Nat.le_refl _) rfl
  rw [Nat.sub_zero, List.drop_zero] at h1
  rw [List.take_of_length_le (by rw [List.length_drop]; omega)] at h2
  exact ⟨_, _, G, rfl, h1.only ho (ne1 hG), hG, ⟨_, _, _, G, hb.put, h2.only ho (ne1 hG), by omega, hGR⟩, ho⟩

theorem take_snoc {l : List UInt8} {k : Nat} (h : k < l.length) : l.take (k + 1) = l.take k ++ [l[k]] := by
  rw [List.take_succ_eq_append_getElem h]
set_option maxRecDepth 100000 in
theorem number_does {w : World} {R : Nat} {l : List UInt8} {k : Nat} (h : Rd w R l) (hk : k ≤ l.length) (hk4 : k ≤ 4) :
    Does Tryz.prog 207 [.pointer (some ⟨R, 0, none⟩), .int .i64 k] w (fun v w' => v = .int .u32 (beL (l.take k)) ∧ Rd w' R (l.drop k) ∧ Only [R] w w') := by
  refine Does.enter (fn := Tryz.f207) (by kernel_rfl) rfl (by kernel_rfl) (by kernel_rfl) ?_
  conv => whnf
  refine (take_does h hk).mono ?_
  rintro v w1 ⟨A, c, G, rfl, hb, hG, hR, ho⟩
  have hl := hb.len
  conv => whnf
  refine VLoop.inv (α := Nat × Int) [(7, 10), (20, 30)] (fun | (i, v) => [(7, .int .u32 v), (20, .int .i64 i)]) (fun | (i, v) => fun w' => w1 = w' ∧ i ≤ k ∧ v = beL ((l.take k).take i)) (fun | (i, v) => k - i) (0, 0) (by kernel_rfl) ⟨rfl, rfl, trivial⟩ ⟨rfl, Nat.zero_le _, rfl⟩ ?_
  rintro ⟨i, v⟩ wr j ⟨rfl, hi, rfl⟩
  conv => whnf
  refine VIf.dec (fun ht => ?_) (fun ht => ?_)
  · have hik : i < (l.take k).length := by omega
    obtain ⟨b, off, rfl, hbG⟩ := hb.some_ (by omega)
    have hbd := beL_bd ((l.take k).take i)
    have hc := u8_le ((l.take k)[i])
    conv => whnf
    refine ⟨_, _, rfl, i, off + i, rfl, by omega, p1 _ _, ?_⟩
    conv => whnf
    refine ⟨u8 ((l.take k)[i]), Loads.one (by kernel_rfl) (hb.ld (List.getElem?_eq_getElem hik)), ?_⟩
    conv => whnf
    have hlen : ((l.take k).take i).length = i := by rw [List.length_take]; omega
    have hpow : beL ((l.take k).take i) < 16777216 := by
      rw [hlen] at hbd
      have : (256 : Int) ^ i ≤ 256 ^ 3 := by
        have := Nat.pow_le_pow_right (n := 256) (by decide) (show i ≤ 3 by omega)
        exact_mod_cast this
      have h3 : (256 : Int) ^ 3 = 16777216 := by decide
      omega
    have e1 : orI .u32 (IntKind.u32.wrap (beL ((l.take k).take i) * pw 8 .u32)) (IntKind.u32.wrap (((l.take k)[i]).toNat : Int)) = beL ((l.take k).take (i + 1)) := by
      have h0 := Int.natCast_nonneg ((l.take k)[i]).toNat
      rw [show pw 8 .u32 = 256 from rfl, wr32, wr32, Int.emod_eq_of_lt (by omega) (by omega), Int.emod_eq_of_lt h0 (by omega), or_256 .u32 hbd.1 h0 (by omega) (by simp only [maxN]; omega), take_snoc hik, beL_snoc]
    exact ⟨(i + 1, _), ⟨congrArg (Value.int IntKind.u32) e1, congrArg (Value.int IntKind.i64) (by rw [wi64]; omega), trivial⟩, ⟨rfl, by omega, rfl⟩, by show k - (i + 1) < k - i; omega⟩
  · obtain rfl : i = k := by omega
    conv => whnf
    refine ⟨?_, hR, ho⟩
    show Value.int IntKind.u32 (beL ((l.take i).take i)) = .int .u32 (beL (l.take i))
    rw [List.take_of_length_le (by omega)]
theorem number_u {w : World} {R : Nat} {l : List UInt8} {k : Nat} (h : Rd w R l) (hk : k ≤ l.length) (hk4 : k ≤ 4) : 0 ≤ beL (l.take k) ∧ beL (l.take k) < 256 ^ k := by
  have := beL_bd (l.take k)
  rwa [List.length_take, Nat.min_eq_left hk] at this
set_option maxRecDepth 100000 in
theorem rU8_does {w : World} {R : Nat} {c : UInt8} {l : List UInt8} (h : Rd w R (c :: l)) :
    Does Tryz.prog 145 [.pointer (some ⟨R, 0, none⟩)] w (fun v w' => v = u8 c ∧ Rd w' R l ∧ Only [R] w w') := by
  refine Does.enter (fn := Tryz.f145) (by kernel_rfl) rfl (by kernel_rfl) (by kernel_rfl) ?_
  conv => whnf
  refine (number_does (k := 1) h (by simp) (by omega)).mono ?_
  rintro v w1 ⟨rfl, hR, ho⟩
  conv => whnf
  refine ⟨congrArg (Value.int IntKind.u8) ?_, hR, ho⟩
  have := u8_le c
  simp [beL, wr8]
  omega
set_option maxRecDepth 100000 in
theorem rU16_does {w : World} {R : Nat} {a b : UInt8} {l : List UInt8} (h : Rd w R (a :: b :: l)) :
    Does Tryz.prog 146 [.pointer (some ⟨R, 0, none⟩)] w (fun v w' => v = .int .u16 ((a.toNat : Int) * 256 + (b.toNat : Int)) ∧ Rd w' R l ∧ Only [R] w w') := by
  refine Does.enter (fn := Tryz.f146) (by kernel_rfl) rfl (by kernel_rfl) (by kernel_rfl) ?_
  conv => whnf
  refine (number_does (k := 2) h (by simp) (by omega)).mono ?_
  rintro v w1 ⟨rfl, hR, ho⟩
  conv => whnf
  refine ⟨congrArg (Value.int IntKind.u16) ?_, hR, ho⟩
  have := u8_le a
  have := u8_le b
  simp [beL, wr16]
  omega
set_option maxRecDepth 100000 in
theorem rBytes_does {w : World} {R : Nat} {l : List UInt8} {k : Nat} (h : Rd w R l) (hk : k ≤ l.length) (hl : l.length ≤ 140737488355328) :
    Does Tryz.prog 147 [.pointer (some ⟨R, 0, none⟩), .int .i64 k] w (fun v w' => ∃ w1, Own w1 w' 5 1 ((l.take k).map u8) v ∧ Only [R] w w1 ∧ Rd w' R (l.drop k)) := by
  refine Does.enter (fn := Tryz.f147) (by kernel_rfl) rfl (by kernel_rfl) (by kernel_rfl) ?_
  conv => whnf
  refine (take_does h hk).mono ?_
  rintro v w1 ⟨A, c, G, rfl, hb, hG, hR, ho⟩
  conv => whnf
  refine (cloneB_does hb (by omega)).mono ?_
  intro v w2 hv
  obtain ⟨A', n', c', F', rfl, hr', ho2, hF'⟩ := hv
  conv => whnf
  exact ⟨w1, ⟨A', n', c', F', rfl, hr', ho2, hF'⟩, ho, hR.only ho2⟩
set_option maxRecDepth 100000 in
theorem rLeft_does {w : World} {R : Nat} {l : List UInt8} (h : Rd w R l) :
    Does Tryz.prog 148 [.pointer (some ⟨R, 0, none⟩)] w (fun v w' => v = .int .i64 l.length ∧ w = w') := by
  obtain ⟨A, n, c, G, hb, hs, hn, hG⟩ := h.ex
  obtain rfl := hs.len
  refine Does.enter (fn := Tryz.f148) (by kernel_rfl) rfl (by kernel_rfl) (by kernel_rfl) ?_
  conv => whnf
  refine ⟨_, Loads.one (by kernel_rfl) (hb.at (i := 0) rfl), ?_⟩
  conv => whnf
  exact ⟨rfl, rfl⟩
end Go.Proofs.YtofomopdaponbaaGreatDoor
