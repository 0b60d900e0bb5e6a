/-
  wire.Writer: bytes written behind one another, where there is room.
-/
import Derived.Test.YtofomopdaponbaaGreatDoorZe
import Derived.Test.YtofomopdaponbaaGreatDoorYNty
import Derived.Test.YtofomopdaponbaaGreatDoorYHe
namespace Go.Proofs.YtofomopdaponbaaGreatDoor
open Go.RowKit
set_option linter.unusedVariables false
set_option linter.unusedSimpArgs false

/-- A writer lies at q: what it has written, how much it may. -/
def Wr (w : World) (q : Nat) (F : List Nat) (l : List UInt8) (lim : Int) : Prop :=
  ∃ A c FA, Blk w q 213 ⟨[.slice A l.length c, .int .i64 lim, .int .i64 0]⟩ ∧ Row w 5 1 FA A l.length c (l.map u8) ∧ F = q :: FA
theorem Wr.o {w w' : World} {q : Nat} {F : List Nat} {l : List UInt8} {lim : Int} (h : Wr w q F l lim) (ho : Only [] w w') : Wr w' q F l lim := by
  obtain ⟨A, c, FA, h1, h2, h3⟩ := h
  exact ⟨A, c, FA, h1.only ho (by simp), h2.only ho (by simp), h3⟩
theorem Wr.lt {w : World} {q : Nat} {F : List Nat} {l : List UInt8} {lim : Int} (h : Wr w q F l lim) : ∀ k ∈ F, k < w.heap.size := by
  obtain ⟨A, c, FA, h1, h2, rfl⟩ := h
  intro k hk
  rcases List.mem_cons.1 hk with rfl | hk
  · exact h1.lt
  · exact h2.lt k hk
def Wrote (w w' : World) (q : Nat) (F : List Nat) (l : List UInt8) (lim : Int) : Prop := ∃ F', Wr w' q F' l lim ∧ Only F w w' ∧ ∀ k ∈ F', k ∈ F ∨ w.heap.size ≤ k
set_option maxRecDepth 100000 in
theorem newWriter_does {w : World} {n : Int} (h0 : 0 ≤ n) (h1 : n ≤ 65575) : Does Tryz.prog 80 [.int .i64 n] w (fun v w' => ∃ q, v = .pointer (some ⟨q, 0, none⟩) ∧ w.heap.size ≤ q ∧ Wr w' q [q] [] n ∧ Only [] w w') := by
  refine Does.enter (fn := Tryz.f80) (by kernel_rfl) rfl (by kernel_rfl) (by kernel_rfl) ?_
  conv => whnf
  have em : min (max n 0) 65575 = n := by omega
  show ∃ q, Value.pointer (some ⟨w.heap.size, 0, none⟩) = Value.pointer (some ⟨q, 0, none⟩) ∧ w.heap.size ≤ q ∧ Wr (w.alloc (.cells ⟨[.slice none 0 0, .int .i64 (min (max n 0) 65575), .int .i64 0]⟩ 213)) q [q] [] n ∧ Only [] w (w.alloc (.cells ⟨[.slice none 0 0, .int .i64 (min (max n 0) 65575), .int .i64 0]⟩ 213))
  rw [em]
  exact ⟨w.heap.size, rfl, Nat.le_refl _, ⟨none, 0, [], Blk.new w 213 ⟨[.slice none 0 0, .int .i64 n, .int .i64 0]⟩, Row.nil _ _ _ _, rfl⟩, (Only.refl [] w).alloc _⟩
set_option maxRecDepth 100000 in
theorem room_does {w : World} {q : Nat} {F : List Nat} {l : List UInt8} {lim k : Int} (h : Wr w q F l lim) (hk : 0 ≤ k) (hr : k ≤ lim - l.length) (hl : lim ≤ 65575) :
    Does Tryz.prog 158 [.pointer (some ⟨q, 0, none⟩), .int .i64 k] w (fun v w' => v = .bool true ∧ Only [] w w') := by
  obtain ⟨A, c, FA, hb, hrow, rfl⟩ := h
  refine Does.enter (fn := Tryz.f158) (by kernel_rfl) rfl (by kernel_rfl) (by kernel_rfl) ?_
  conv => whnf
  refine VJoin.go (by kernel_rfl) ?_
  conv => whnf
  refine VDraw.abs fun N0 hN => ?_
  refine VDraw.q (by kernel_rfl) (by kernel_rfl) ?_
  conv => whnf
  refine ⟨.int .i64 0, fun w' hw' => Loads.one (by kernel_rfl) ((hb.only hw' (by simp)).at (i := 2) rfl), ?_⟩
  conv => whnf
  refine ⟨.int .i64 lim, fun w' hw' => Loads.one (by kernel_rfl) ((hb.only hw' (by simp)).at (i := 1) rfl), ?_⟩
  conv => whnf
  refine ⟨.slice A l.length c, fun w' hw' => Loads.one (by kernel_rfl) ((hb.only hw' (by simp)).at (i := 0) rfl), ?_⟩
  conv => whnf
  intro w1 ho1
  have e1 : IntKind.i64.wrap (lim - (l.length : Int)) = lim - l.length := wi_id (by omega) (by omega)
  refine hN _ _ ?_
  conv => whnf
  rw [e1]
  refine VIf.dec (fun h => ?_) (fun h => ?_)
  · have h : k > lim - l.length := h
    omega
  conv => whnf
  refine ⟨.int .i64 0, Loads.one (by kernel_rfl) ((hb.only ho1 (by simp)).at (i := 2) rfl), ?_⟩
  conv => whnf
  exact ⟨rfl, ho1⟩
/-- The bytes of a number, the highest first. -/
def beB (m : Nat) (v : Int) : List UInt8 := if m = 1 then [loB v] else [hiB v, loB v]
theorem Wr.app {w' : World} {q : Nat} {l' : List UInt8} {lim : Int} {A' : Option Addr} {c' n' : Nat} {FA' : List Nat} (hn : n' = l'.length) (hb : Blk w' q 213 ⟨[.slice A' n' c', .int .i64 lim, .int .i64 0]⟩) (hr : Row w' 5 1 FA' A' n' c' (l'.map u8)) : Wr w' q (q :: FA') l' lim := by
  subst hn
  exact ⟨A', c', FA', hb, hr, rfl⟩
theorem Wrote.step {w wr w6 : World} {q : Nat} {F FA F5 : List Nat} {l2 : List UInt8} {lim : Int} (ho : Only F w wr) (hF : ∀ k ∈ q :: FA, k ∈ F ∨ w.heap.size ≤ k) (h6 : Wr w6 q (q :: F5) l2 lim) (ho6 : Only (q :: FA) wr w6) (hF5 : ∀ k ∈ F5, k ∈ FA ∨ wr.heap.size ≤ k) : Wrote w w6 q F l2 lim := by
  refine ⟨_, h6, ho.trans ho6 hF, fun k hk => ?_⟩
  rcases List.mem_cons.1 hk with rfl | hk
  · exact hF _ List.mem_cons_self
  rcases hF5 k hk with h | h
  · exact hF k (List.mem_cons_of_mem _ h)
  · exact .inr (Nat.le_trans ho.size h)
set_option maxRecDepth 100000 in
theorem number1_does {w : World} {q : Nat} {F : List Nat} {l : List UInt8} {lim v : Int} (h : Wr w q F l lim) (hr : 1 ≤ lim - l.length) (hl : lim ≤ 65575) (h0 : 0 ≤ v) (h1 : v ≤ 255) :
    Does Tryz.prog 157 [.pointer (some ⟨q, 0, none⟩), .int .i64 1, .int .u32 v] w (fun r w' => r = .tuple ⟨[]⟩ ∧ Wrote w w' q F (l ++ [loB v]) lim) := by
  have hroom := room_does (k := 1) h (by decide) hr hl
  have e2 : IntKind.u8.wrap v = ((loB v).toNat : Int) := by rw [wr8, loB_eq h0]
  refine Does.enter (fn := Tryz.f157) (by kernel_rfl) rfl (by kernel_rfl) (by kernel_rfl) ?_
  conv => whnf
  refine hroom.mono ?_
  rintro r w1 ⟨rfl, ho1⟩
  conv => whnf
  refine VLoop.inv (α := Nat) [(1, 2), (12, 30)] (fun i => [(1, .int .i64 (0 - (i : Int)))]) (fun i w' => i ≤ 1 ∧ Wrote w w' q F (match i with
    | 0 => l
    | _ => l ++ [loB v]) lim) (fun i => 1 - i) 0 (by kernel_rfl) ⟨rfl, trivial⟩ ⟨by decide, ⟨F, h.o ho1, ho1.up, fun k hk => .inl hk⟩⟩ ?_
  rintro i wr j ⟨hi, F', hW, hoW, hFW⟩
  match i, hi, hW with
  | 0, hi, hW =>
    have hW : Wr wr q F' (l) lim := hW
    obtain ⟨A', c', FA', hb', hrow', rfl⟩ := hW
    have ex : Value.int .u8 (IntKind.u8.wrap (v / pw (IntKind.i64.wrap (8 * (0 - ((0 : Nat) : Int)))) .u32)) = u8 (loB v) := congrArg (Value.int .u8) (by rw [show pw (IntKind.i64.wrap (8 * (0 - ((0 : Nat) : Int)))) .u32 = 1 by kernel_rfl, Int.ediv_one]; exact e2)
    conv => whnf
    refine VDraw.abs fun N0 hN => ?_
    refine VDraw.ahead 14 (fun _ => True) (fun w' => Blk w' q 213 ⟨[.slice A' (l).length c', .int .i64 lim, .int .i64 0]⟩) [0, 1, 2, 3, 4, 5, 6, 7, 8, 9, 10, 11, 12, 13, 14] (by kernel_rfl) (by kernel_rfl) trivial hb'.drew ?_
    conv => whnf
    refine ⟨.slice A' (l).length c', fun w' hw' => Loads.one (by kernel_rfl) (hw'.2.at (i := 0) rfl), ?_⟩
    conv => whnf
    refine ⟨⟨trivial, fun _ => hb'.drew.alloc _⟩, ?_⟩
    conv => whnf
    have hq' : q ∉ FA' := hrow'.ne_blk hb' (by decide)
    refine vFall.append 5 1 1 rfl (by kernel_rfl) rfl (hrow'.drew.alloc _) rfl (Sl.new wr.drew 5 1 [Value.int .u8 (IntKind.u8.wrap (v / pw (IntKind.i64.wrap (8 * (0 - ((0 : Nat) : Int)))) .u32))] 1 rfl) (by rw [ex]; simp [u8, Value.oneCell']) (by simp at hr ⊢; omega) (by simp at hr ⊢; omega) ?_
    intro A5 c5 F5 w5 hr5 ho5 hF5
    have hal := (Only.refl [] wr.drew).alloc (.cells ⟨[Value.int .u8 (IntKind.u8.wrap (v / pw (IntKind.i64.wrap (8 * (0 - ((0 : Nat) : Int)))) .u32))]⟩ 5)
    have ho5r : Only FA' wr w5 := ((Only.refl [] wr).drew.t0 hal).zf ho5
    have hb5 := hb'.only ho5r hq'
    refine ⟨⟨trivial, fun _ => hb5⟩, ?_⟩
    conv => whnf
    refine vStore.one hb5 (by kernel_rfl) rfl (i := 0) (u := .slice A' (l).length c') rfl (fun hb6 ho6 => ?_)
    refine ⟨⟨trivial, fun h => Bool.noConfusion h⟩, ?_⟩
    refine hN _ _ ?_
    conv => whnf
    have hq5 : q ∉ F5 := hr5.ne_blk hb5 (by decide)
    have hr6 := hr5.only ho6 (fun k hk hm => by
      obtain rfl : k = q := by simpa using hm
      exact hq5 hk)
    refine ⟨1, ⟨rfl, trivial⟩, ⟨by decide, ?_⟩, by decide⟩
    refine Wrote.step hoW hFW (Wr.app (l' := (l) ++ [loB v]) (by simp) hb6 (hr6.cast (by rw [ex]; simp))) ((ho5r.mono (G := q :: FA') (fun x hx => .inl (List.mem_cons_of_mem _ hx))).trans ho6 (fun x hx => .inl (by simp at hx; simp [hx]))) (fun k hk => ?_)
    rcases hF5 k hk with h | h
    · exact .inl h
    · exact .inr (Nat.le_trans ((Only.refl [] wr).drew.t0 hal).size h)
  | 1, hi, hW =>
    conv => whnf
    exact ⟨rfl, F', hW, hoW, hFW⟩
  | i + 2, hi, hW => omega
set_option maxRecDepth 100000 in
theorem number2_does {w : World} {q : Nat} {F : List Nat} {l : List UInt8} {lim v : Int} (h : Wr w q F l lim) (hr : 2 ≤ lim - l.length) (hl : lim ≤ 65575) (h0 : 0 ≤ v) (h1 : v ≤ 65535) :
    Does Tryz.prog 157 [.pointer (some ⟨q, 0, none⟩), .int .i64 2, .int .u32 v] w (fun r w' => r = .tuple ⟨[]⟩ ∧ Wrote w w' q F (l ++ [hiB v] ++ [loB v]) lim) := by
  have hroom := room_does (k := 2) h (by decide) hr hl
  have e2 : IntKind.u8.wrap v = ((loB v).toNat : Int) := by rw [wr8, loB_eq h0]
  have e1 : IntKind.u8.wrap (v / pw 8 .u32) = ((hiB v).toNat : Int) := by rw [wr8, show pw 8 .u32 = 256 from rfl, hiB_eq h0 h1]; omega
  refine Does.enter (fn := Tryz.f157) (by kernel_rfl) rfl (by kernel_rfl) (by kernel_rfl) ?_
  conv => whnf
  refine hroom.mono ?_
  rintro r w1 ⟨rfl, ho1⟩
  conv => whnf
  refine VLoop.inv (α := Nat) [(1, 2), (12, 30)] (fun i => [(1, .int .i64 (1 - (i : Int)))]) (fun i w' => i ≤ 2 ∧ Wrote w w' q F (match i with
    | 0 => l
    | 1 => l ++ [hiB v]
    | _ => l ++ [hiB v] ++ [loB v]) lim) (fun i => 2 - i) 0 (by kernel_rfl) ⟨rfl, trivial⟩ ⟨by decide, ⟨F, h.o ho1, ho1.up, fun k hk => .inl hk⟩⟩ ?_
  rintro i wr j ⟨hi, F', hW, hoW, hFW⟩
  match i, hi, hW with
  | 0, hi, hW =>
    have hW : Wr wr q F' (l) lim := hW
    obtain ⟨A', c', FA', hb', hrow', rfl⟩ := hW
    have ex : Value.int .u8 (IntKind.u8.wrap (v / pw (IntKind.i64.wrap (8 * (1 - ((0 : Nat) : Int)))) .u32)) = u8 (hiB v) := congrArg (Value.int .u8) (by rw [show pw (IntKind.i64.wrap (8 * (1 - ((0 : Nat) : Int)))) .u32 = pw 8 .u32 by kernel_rfl]; exact e1)
    conv => whnf
    refine VDraw.abs fun N0 hN => ?_
    refine VDraw.ahead 14 (fun _ => True) (fun w' => Blk w' q 213 ⟨[.slice A' (l).length c', .int .i64 lim, .int .i64 0]⟩) [0, 1, 2, 3, 4, 5, 6, 7, 8, 9, 10, 11, 12, 13, 14] (by kernel_rfl) (by kernel_rfl) trivial hb'.drew ?_
    conv => whnf
    refine ⟨.slice A' (l).length c', fun w' hw' => Loads.one (by kernel_rfl) (hw'.2.at (i := 0) rfl), ?_⟩
    conv => whnf
    refine ⟨⟨trivial, fun _ => hb'.drew.alloc _⟩, ?_⟩
    conv => whnf
    have hq' : q ∉ FA' := hrow'.ne_blk hb' (by decide)
    refine vFall.append 5 1 1 rfl (by kernel_rfl) rfl (hrow'.drew.alloc _) rfl (Sl.new wr.drew 5 1 [Value.int .u8 (IntKind.u8.wrap (v / pw (IntKind.i64.wrap (8 * (1 - ((0 : Nat) : Int)))) .u32))] 1 rfl) (by rw [ex]; simp [u8, Value.oneCell']) (by simp at hr ⊢; omega) (by simp at hr ⊢; omega) ?_
    intro A5 c5 F5 w5 hr5 ho5 hF5
    have hal := (Only.refl [] wr.drew).alloc (.cells ⟨[Value.int .u8 (IntKind.u8.wrap (v / pw (IntKind.i64.wrap (8 * (1 - ((0 : Nat) : Int)))) .u32))]⟩ 5)
    have ho5r : Only FA' wr w5 := ((Only.refl [] wr).drew.t0 hal).zf ho5
    have hb5 := hb'.only ho5r hq'
    refine ⟨⟨trivial, fun _ => hb5⟩, ?_⟩
    conv => whnf
    refine vStore.one hb5 (by kernel_rfl) rfl (i := 0) (u := .slice A' (l).length c') rfl (fun hb6 ho6 => ?_)
    refine ⟨⟨trivial, fun h => Bool.noConfusion h⟩, ?_⟩
    refine hN _ _ ?_
    conv => whnf
    have hq5 : q ∉ F5 := hr5.ne_blk hb5 (by decide)
    have hr6 := hr5.only ho6 (fun k hk hm => by
      obtain rfl : k = q := by simpa using hm
      exact hq5 hk)
    refine ⟨1, ⟨rfl, trivial⟩, ⟨by decide, ?_⟩, by decide⟩
    refine Wrote.step hoW hFW (Wr.app (l' := (l) ++ [hiB v]) (by simp) hb6 (hr6.cast (by rw [ex]; simp))) ((ho5r.mono (G := q :: FA') (fun x hx => .inl (List.mem_cons_of_mem _ hx))).trans ho6 (fun x hx => .inl (by simp at hx; simp [hx]))) (fun k hk => ?_)
    rcases hF5 k hk with h | h
    · exact .inl h
    · exact .inr (Nat.le_trans ((Only.refl [] wr).drew.t0 hal).size h)
  | 1, hi, hW =>
    have hW : Wr wr q F' (l ++ [hiB v]) lim := hW
    obtain ⟨A', c', FA', hb', hrow', rfl⟩ := hW
    have ex : Value.int .u8 (IntKind.u8.wrap (v / pw (IntKind.i64.wrap (8 * (1 - ((1 : Nat) : Int)))) .u32)) = u8 (loB v) := congrArg (Value.int .u8) (by rw [show pw (IntKind.i64.wrap (8 * (1 - ((1 : Nat) : Int)))) .u32 = 1 by kernel_rfl, Int.ediv_one]; exact e2)
    conv => whnf
    refine VDraw.abs fun N0 hN => ?_
    refine VDraw.ahead 14 (fun _ => True) (fun w' => Blk w' q 213 ⟨[.slice A' (l ++ [hiB v]).length c', .int .i64 lim, .int .i64 0]⟩) [0, 1, 2, 3, 4, 5, 6, 7, 8, 9, 10, 11, 12, 13, 14] (by kernel_rfl) (by kernel_rfl) trivial hb'.drew ?_
    conv => whnf
    refine ⟨.slice A' (l ++ [hiB v]).length c', fun w' hw' => Loads.one (by kernel_rfl) (hw'.2.at (i := 0) rfl), ?_⟩
    conv => whnf
    refine ⟨⟨trivial, fun _ => hb'.drew.alloc _⟩, ?_⟩
    conv => whnf
    have hq' : q ∉ FA' := hrow'.ne_blk hb' (by decide)
    refine vFall.append 5 1 1 rfl (by kernel_rfl) rfl (hrow'.drew.alloc _) rfl (Sl.new wr.drew 5 1 [Value.int .u8 (IntKind.u8.wrap (v / pw (IntKind.i64.wrap (8 * (1 - ((1 : Nat) : Int)))) .u32))] 1 rfl) (by rw [ex]; simp [u8, Value.oneCell']) (by simp at hr ⊢; omega) (by simp at hr ⊢; omega) ?_
    intro A5 c5 F5 w5 hr5 ho5 hF5
    have hal := (Only.refl [] wr.drew).alloc (.cells ⟨[Value.int .u8 (IntKind.u8.wrap (v / pw (IntKind.i64.wrap (8 * (1 - ((1 : Nat) : Int)))) .u32))]⟩ 5)
    have ho5r : Only FA' wr w5 := ((Only.refl [] wr).drew.t0 hal).zf ho5
    have hb5 := hb'.only ho5r hq'
    refine ⟨⟨trivial, fun _ => hb5⟩, ?_⟩
    conv => whnf
    refine vStore.one hb5 (by kernel_rfl) rfl (i := 0) (u := .slice A' (l ++ [hiB v]).length c') rfl (fun hb6 ho6 => ?_)
    refine ⟨⟨trivial, fun h => Bool.noConfusion h⟩, ?_⟩
    refine hN _ _ ?_
    conv => whnf
    have hq5 : q ∉ F5 := hr5.ne_blk hb5 (by decide)
    have hr6 := hr5.only ho6 (fun k hk hm => by
      obtain rfl : k = q := by simpa using hm
      exact hq5 hk)
    refine ⟨2, ⟨rfl, trivial⟩, ⟨by decide, ?_⟩, by decide⟩
    refine Wrote.step hoW hFW (Wr.app (l' := (l ++ [hiB v]) ++ [loB v]) (by simp) hb6 (hr6.cast (by rw [ex]; simp))) ((ho5r.mono (G := q :: FA') (fun x hx => .inl (List.mem_cons_of_mem _ hx))).trans ho6 (fun x hx => .inl (by simp at hx; simp [hx]))) (fun k hk => ?_)
    rcases hF5 k hk with h | h
    · exact .inl h
    · exact .inr (Nat.le_trans ((Only.refl [] wr).drew.t0 hal).size h)
  | 2, hi, hW =>
    conv => whnf
    exact ⟨rfl, F', hW, hoW, hFW⟩
  | i + 3, hi, hW => omega
theorem beU {v : Int} (h : 0 ≤ v) (h1 : v ≤ 65535) : IntKind.u32.wrap v = v := by rw [wr32]; omega
set_option maxRecDepth 100000 in
theorem u8_does {w : World} {q : Nat} {F : List Nat} {l : List UInt8} {lim v : Int} (h : Wr w q F l lim) (hr : 1 ≤ lim - l.length) (hl : lim ≤ 65575) (h0 : 0 ≤ v) (h1 : v ≤ 255) :
    Does Tryz.prog 81 [.pointer (some ⟨q, 0, none⟩), .int .u8 v] w (fun r w' => r = .tuple ⟨[]⟩ ∧ Wrote w w' q F (l ++ [loB v]) lim) := by
  have e := beU h0 (by omega)
  refine Does.enter (fn := Tryz.f81) (by kernel_rfl) rfl (by kernel_rfl) (by kernel_rfl) ?_
  conv => whnf
  rw [e]
  refine (number1_does h hr hl h0 h1).mono ?_
  rintro r w' ⟨rfl, hw⟩
  conv => whnf
  exact ⟨rfl, hw⟩
set_option maxRecDepth 100000 in
theorem u16_does {w : World} {q : Nat} {F : List Nat} {l : List UInt8} {lim v : Int} (h : Wr w q F l lim) (hr : 2 ≤ lim - l.length) (hl : lim ≤ 65575) (h0 : 0 ≤ v) (h1 : v ≤ 65535) :
    Does Tryz.prog 82 [.pointer (some ⟨q, 0, none⟩), .int .u16 v] w (fun r w' => r = .tuple ⟨[]⟩ ∧ Wrote w w' q F (l ++ [hiB v] ++ [loB v]) lim) := by
  have e := beU h0 h1
  refine Does.enter (fn := Tryz.f82) (by kernel_rfl) rfl (by kernel_rfl) (by kernel_rfl) ?_
  conv => whnf
  rw [e]
  refine (number2_does h hr hl h0 h1).mono ?_
  rintro r w' ⟨rfl, hw⟩
  conv => whnf
  exact ⟨rfl, hw⟩
set_option maxRecDepth 100000 in
theorem wbytes_does {w : World} {q : Nat} {F G : List Nat} {l b : List UInt8} {lim : Int} {B : Option Addr} {m d : Nat} (h : Wr w q F l lim) (hb : Bs w G B m b) (hr : (b.length : Int) ≤ lim - l.length) (hl : lim ≤ 65575) :
    Does Tryz.prog 84 [.pointer (some ⟨q, 0, none⟩), .slice B m d] w (fun r w' => r = .tuple ⟨[]⟩ ∧ Wrote w w' q F (l ++ b) lim) := by
  have hbl := hb.len
  have hroom := room_does (k := (m : Nat)) h (Int.natCast_nonneg _) (by omega) hl
  obtain ⟨A, c, FA, hq, hrow, rfl⟩ := h
  refine Does.enter (fn := Tryz.f84) (by kernel_rfl) rfl (by kernel_rfl) (by kernel_rfl) ?_
  conv => whnf
  refine hroom.mono ?_
  rintro r w1 ⟨rfl, ho1⟩
  have hq1 := hq.only ho1 (by simp)
  have hrow1 := hrow.only ho1 (by simp)
  have hb1 := hb.o ho1
  conv => whnf
  refine ⟨.slice A l.length c, Loads.one (by kernel_rfl) (hq1.at (i := 0) rfl), ?_⟩
  conv => whnf
  refine vFall.append 5 1 1 rfl (by kernel_rfl) rfl hrow1 rfl hb1 (one_u8 b) (by omega) (by omega) ?_
  intro A5 c5 F5 w5 hr5 ho5 hF5
  have hqA : q ∉ FA := hrow1.ne_blk hq1 (by decide)
  have hq5 := hq1.only ho5 hqA
  conv => whnf
  refine vStore.one hq5 (by kernel_rfl) rfl (i := 0) (u := .slice A l.length c) rfl (fun hq6 ho6 => ?_)
  have hq5' : q ∉ F5 := hr5.ne_blk hq5 (by decide)
  have hr6 := hr5.only ho6 (fun k hk hm => by
    obtain rfl : k = q := by simpa using hm
    exact hq5' hk)
  conv => whnf
  refine ⟨rfl, Wrote.step ho1.up (fun k hk => .inl hk) (Wr.app (l' := l ++ b) (by rw [List.length_append, hbl]) hq6 (hr6.cast (by simp))) ((ho5.mono (G := q :: FA) (fun x hx => .inl (List.mem_cons_of_mem _ hx))).trans ho6 (fun x hx => .inl (by simp at hx; simp [hx]))) (fun k hk => hF5 k hk)⟩
set_option maxRecDepth 100000 in
theorem wout_does {w : World} {q : Nat} {F : List Nat} {l : List UInt8} {lim : Int} (h : Wr w q F l lim) (hl : l.length ≤ 140737488355328) :
    Does Tryz.prog 85 [.pointer (some ⟨q, 0, none⟩)] w (fun r w' => ∃ A c FX, r = .tuple ⟨[.slice A l.length c, .int .i64 0]⟩ ∧ Row w' 5 1 FX A l.length c (l.map u8) ∧ Only [] w w' ∧ (∀ k ∈ FX, w.heap.size ≤ k)) := by
  obtain ⟨A, c, FA, hq, hrow, rfl⟩ := h
  refine Does.enter (fn := Tryz.f85) (by kernel_rfl) rfl (by kernel_rfl) (by kernel_rfl) ?_
  conv => whnf
  refine ⟨.int .i64 0, Loads.one (by kernel_rfl) (hq.at (i := 2) rfl), ?_⟩
  conv => whnf
  refine ⟨.slice A l.length c, Loads.one (by kernel_rfl) (hq.at (i := 0) rfl), ?_⟩
  conv => whnf
  refine (cloneB_does (Row.bs hrow) hl).mono ?_
  rintro v w1 ⟨X, nX, cX, FX, rfl, hrX, hoX, hFX⟩
  obtain rfl := (Row.bs hrX).len
  conv => whnf
  exact ⟨X, cX, FX, rfl, hrX, hoX, hFX⟩
set_option maxRecDepth 100000 in
theorem put16_does {w : World} {q k : Nat} {F : List Nat} {l : List UInt8} {lim v : Int} (h : Wr w q F l lim) (hk : k + 1 < l.length) (hl : l.length ≤ 140737488355328) (h0 : 0 ≤ v) (h1 : v ≤ 65535) :
    Does Tryz.prog 86 [.pointer (some ⟨q, 0, none⟩), .int .i64 k, .int .u16 v] w (fun r w' => r = .tuple ⟨[]⟩ ∧ Wr w' q F (setW l k v) lim ∧ Only F w w') := by
  obtain ⟨A, c, FA, hq, hrow, rfl⟩ := h
  have hle := hrow.le
  have hqA : q ∉ FA := hrow.ne_blk hq (by decide)
  have e1 : IntKind.u8.wrap (v / pw 8 .u16) = ((hiB v).toNat : Int) := by rw [wr8, show pw 8 .u16 = 256 from rfl, hiB_eq h0 h1]; omega
  have e2 : IntKind.u8.wrap v = ((loB v).toNat : Int) := by rw [wr8, loB_eq h0]
  have el : IntKind.i64.wrap ((l.length : Int) - 2) = (l.length : Int) - 2 := wi_id (by omega) (by omega)
  have ek : IntKind.i64.wrap ((k : Int) + 1) = ((k + 1 : Nat) : Int) := by rw [wi64]; omega
  obtain ⟨g, rfl, rfl, hf, ⟨u, hu⟩, hr1⟩ := hrow.drew.put (i := k) (v := u8 (hiB v)) (by omega)
  obtain ⟨g', e, _, hf2, ⟨u2, hu2⟩, hr2⟩ := hr1.put (i := k + 1) (v := u8 (loB v)) hk
  cases e
  refine Does.enter (fn := Tryz.f86) (by kernel_rfl) rfl (by kernel_rfl) (by kernel_rfl) ?_
  conv => whnf
  refine ⟨.int .i64 0, Loads.one (by kernel_rfl) (hq.at (i := 2) rfl), ?_⟩
  conv => whnf
  refine ⟨.slice (some ⟨g, 0, none⟩) l.length c, Loads.one (by kernel_rfl) (hq.at (i := 0) rfl), ?_⟩
  conv => whnf
  rw [el]
  refine VIf.dec (fun hx => ?_) (fun _ => ?_)
  · have hx : (k : Int) > (l.length : Int) - 2 := hx
    omega
  conv => whnf
  refine VDraw.abs fun N0 hN => ?_
  refine VDraw.ahead 19 (fun w' => Blk w' q 213 ⟨[.slice (some ⟨g, 0, none⟩) l.length c, .int .i64 lim, .int .i64 0]⟩) (fun _ => True) [0, 1, 2, 3, 4, 5, 6, 7, 8, 9, 10, 11, 12, 13, 14, 15, 16, 17, 18, 19] (by kernel_rfl) (by kernel_rfl) hq.drew trivial ?_
  conv => whnf
  refine ⟨.slice (some ⟨g, 0, none⟩) l.length c, fun w' hw' => Loads.one (by kernel_rfl) (hw'.1.at (i := 0) rfl), ?_⟩
  conv => whnf
  refine ⟨.slice (some ⟨g, 0, none⟩) l.length c, fun w' hw' => Loads.one (by kernel_rfl) (hw'.1.at (i := 0) rfl), ?_⟩
  conv => whnf
  refine ⟨_, _, rfl, k, k, rfl, by omega, p0 _, ?_⟩
  conv => whnf
  rw [e1]
  refine ⟨_, Stores.one (by kernel_rfl) rfl hu hf, ?_⟩
  have hoA : Only [g] w (w.drew.setCell ⟨g, k, none⟩ (u8 (hiB v))) := ((Only.refl [] w).drew.up (F := [g])).put (.inl (by simp))
  refine ⟨⟨hq.only hoA hqA, fun _ => trivial⟩, ?_⟩
  conv => whnf
  refine ⟨_, _, rfl, k + 1, k + 1, ek, by omega, p0 _, ?_⟩
  conv => whnf
  rw [e2]
  refine ⟨_, Stores.one (by kernel_rfl) rfl hu2 hf2, ?_⟩
  have hoB : Only [g] w ((w.drew.setCell ⟨g, k, none⟩ (u8 (hiB v))).setCell ⟨g, k + 1, none⟩ (u8 (loB v))) := hoA.put (.inl (by simp))
  refine ⟨⟨hq.only hoB hqA, fun _ => trivial⟩, ?_⟩
  refine hN _ _ ?_
  conv => whnf
  refine ⟨rfl, ⟨some ⟨g, 0, none⟩, c, [g], by rw [setW_len]; exact hq.only hoB hqA, ?_, rfl⟩, hoB.mono (fun x hx => .inl (List.mem_cons_of_mem _ hx))⟩
  rw [setW_len]
  unfold setW
  rw [List.map_set, List.map_set]
  exact hr2
end Go.Proofs.YtofomopdaponbaaGreatDoor
