/-
  wire.Writer: a number of any size, the highest byte first (U32).
-/
import Derived.Test.YtofomopdaponbaaGreatDoorYNwr
import Derived.Test.YtofomopdaponbaaGreatDoorZa
import Derived.Test.YtofomopdaponbaaGreatDoorZo
import Derived.Test.YtofomopdaponbaaGreatDoorYHt
namespace Go.Proofs.YtofomopdaponbaaGreatDoor
open Go.RowKit
set_option linter.unusedVariables false
set_option linter.unusedSimpArgs false

/-- A byte of a number. -/
def byN (v : Int) (k : Nat) : UInt8 := UInt8.ofNat (v / 2 ^ (8 * k) % 256).toNat
/-- The lowest n bytes of a number, the highest first. -/
def beN (v : Int) : Nat → List UInt8
  | 0 => []
  | n + 1 => byN v n :: beN v n
theorem beN_len (v : Int) : ∀ n, (beN v n).length = n
  | 0 => rfl
  | n + 1 => by rw [beN, List.length_cons, beN_len v n]
theorem byN_val {v : Int} {k : Nat} (hk : k ≤ 3) : IntKind.u8.wrap (v / pw (IntKind.i64.wrap (8 * (k : Int))) .u32) = ((byN v k).toNat : Int) := by
  have e1 : IntKind.i64.wrap (8 * (k : Int)) = ((8 * k : Nat) : Int) := by rw [wi64]; omega
  have e2 : pw ((8 * k : Nat) : Int) .u32 = 2 ^ (8 * k) := by
    unfold pw
    have : min (((8 * k : Nat) : Int).toNat) IntKind.u32.bits = 8 * k := by show min (((8 * k : Nat) : Int).toNat) 32 = 8 * k; omega
    rw [this]
  rw [e1, e2, wr8]
  unfold byN
  rw [UInt8.toNat_ofNat']
  have h1 : 0 ≤ v / 2 ^ (8 * k) % 256 := Int.emod_nonneg _ (by decide)
  have h2 : v / 2 ^ (8 * k) % 256 < 256 := Int.emod_lt_of_pos _ (by decide)
  omega
set_option maxRecDepth 100000 in
theorem numberN_does {w : World} {q n : Nat} {F : List Nat} {l : List UInt8} {lim v : Int} (h : Wr w q F l lim) (hn : n ≤ 4) (hr : (n : Int) ≤ lim - l.length) (hl : lim ≤ 65575) (h0 : 0 ≤ v) (h1 : v ≤ 4294967295) :
    Does Tryz.prog 157 [.pointer (some ⟨q, 0, none⟩), .int .i64 n, .int .u32 v] w (fun r w' => r = .tuple ⟨[]⟩ ∧ Wrote w w' q F (l ++ beN v n) lim) := by
  have hroom := room_does (k := (n : Nat)) h (Int.natCast_nonneg _) hr hl
  have en : IntKind.i64.wrap ((n : Int) - 1) = (n : Int) - 1 := wi_id (by omega) (by omega)
  refine Does.enter (fn := Tryz.f157) (by kernel_rfl) rfl (by kernel_rfl) (by kernel_rfl) ?_
  conv => whnf
  refine hroom.mono ?_
  rintro r w1 ⟨rfl, ho1⟩
  conv => whnf
  refine VLoop.inv (α := Nat × List UInt8) [(1, 2), (12, 30)] (fun t => [(1, .int .i64 ((t.1 : Int) - 1))]) (fun t w' => t.1 ≤ n ∧ t.2 ++ beN v t.1 = l ++ beN v n ∧ Wrote w w' q F t.2 lim) (fun t => t.1) (n, l) (by kernel_rfl) ⟨congrArg (Value.int .i64) en, trivial⟩ ⟨Nat.le_refl _, rfl, ⟨F, h.o ho1, ho1.up, fun k hk => .inl hk⟩⟩ ?_
  rintro ⟨k, l'⟩ wr j ⟨hk, hbe, F', hW, hoW, hFW⟩
  dsimp only at hk hbe hW
  conv => whnf
  refine VIf.dec (fun ht => ?_) (fun ht => ?_)
  rotate_left
  · have ht : ¬ (k : Int) - 1 ≥ 0 := ht
    obtain rfl : k = 0 := by omega
    rw [beN, List.append_nil] at hbe
    rw [hbe] at hW
    conv => whnf
    exact ⟨rfl, F', hW, hoW, hFW⟩
  have ht : (k : Int) - 1 ≥ 0 := ht
  obtain ⟨i, rfl⟩ : ∃ i, k = i + 1 := ⟨k - 1, by omega⟩
  have hlen : l'.length + (i + 1) = l.length + n := by
    have := congrArg List.length hbe
    simpa [beN_len] using this
  have ei : ((i + 1 : Nat) : Int) - 1 = (i : Int) := by omega
  have ei2 : IntKind.i64.wrap ((i : Int) - 1) = (i : Int) - 1 := wi_id (by omega) (by omega)
  rw [ei]
  obtain ⟨A', c', FA', hb', hrow', rfl⟩ := hW
  have ex : Value.int .u8 (IntKind.u8.wrap (v / pw (IntKind.i64.wrap (8 * (i : Int))) .u32)) = u8 (byN v i) := congrArg (Value.int .u8) (byN_val (by omega))
  have hw8 : IntKind.i64.wrap (8 * (i : Int)) = 8 * (i : Int) := wi_id (by omega) (by omega)
  conv => whnf
  refine VDraw.abs fun N0 hN => ?_
  refine VDraw.ahead 14 (fun _ => True) (fun w' => Blk w' q 213 ⟨[.slice A' l'.length c', .int .i64 lim, .int .i64 0]⟩) [0, 1, 2, 3, 4, 5, 6, 7, 8, 9, 10, 11, 12, 13, 14] (by kernel_rfl) (by kernel_rfl) trivial hb'.drew ?_
  conv => whnf
  refine ⟨.slice A' l'.length c', fun w' hw' => Loads.one (by kernel_rfl) (hw'.2.at (i := 0) rfl), ?_⟩
  conv => whnf
  refine ge0.of (by rw [hw8]; omega) ?_
  conv => whnf
  refine ⟨⟨trivial, fun _ => hb'.drew.alloc _⟩, ?_⟩
  conv => whnf
  have hq' : q ∉ FA' := hrow'.ne_blk hb' (by decide)
  refine vFall.append 5 1 1 rfl (by kernel_rfl) rfl (hrow'.drew.alloc _) rfl (Sl.new wr.drew 5 1 [Value.int .u8 (IntKind.u8.wrap (v / pw (IntKind.i64.wrap (8 * (i : Int))) .u32))] 1 rfl) (by rw [ex]; simp [u8, Value.oneCell']) (by omega) (by omega) ?_
  intro A5 c5 F5 w5 hr5 ho5 hF5
  have hal := (Only.refl [] wr.drew).alloc (.cells ⟨[Value.int .u8 (IntKind.u8.wrap (v / pw (IntKind.i64.wrap (8 * (i : Int))) .u32))]⟩ 5)
  have ho5r : Only FA' wr w5 := ((Only.refl [] wr).drew.t0 hal).zf ho5
  have hb5 := hb'.only ho5r hq'
  refine ⟨⟨trivial, fun _ => hb5⟩, ?_⟩
  conv => whnf
  refine vStore.one hb5 (by kernel_rfl) rfl (i := 0) (u := .slice A' l'.length c') rfl (fun hb6 ho6 => ?_)
  refine ⟨⟨trivial, fun h => Bool.noConfusion h⟩, ?_⟩
  refine hN _ _ ?_
  conv => whnf
  have hq5 : q ∉ F5 := hr5.ne_blk hb5 (by decide)
  have hr6 := hr5.only ho6 (fun k hk hm => by
    obtain rfl : k = q := by simpa using hm
    exact hq5 hk)
  refine ⟨(i, l' ++ [byN v i]), ⟨congrArg (Value.int .i64) ei2, trivial⟩, ⟨by show i ≤ n; omega, by rw [← hbe, beN]; simp, ?_⟩, Nat.lt_succ_self i⟩
  refine Wrote.step hoW hFW (Wr.app (l' := l' ++ [byN v i]) (by simp) hb6 (hr6.cast (by rw [ex]; simp))) ((ho5r.mono (G := q :: FA') (fun x hx => .inl (List.mem_cons_of_mem _ hx))).trans ho6 (fun x hx => .inl (by simp at hx; simp [hx]))) (fun k hk => ?_)
  rcases hF5 k hk with h | h
  · exact .inl h
  · exact .inr (Nat.le_trans ((Only.refl [] wr).drew.t0 hal).size h)
set_option maxRecDepth 100000 in
theorem u32_does {w : World} {q : Nat} {F : List Nat} {l : List UInt8} {lim v : Int} (h : Wr w q F l lim) (hr : 4 ≤ lim - l.length) (hl : lim ≤ 65575) (h0 : 0 ≤ v) (h1 : v ≤ 4294967295) :
    Does Tryz.prog 165 [.pointer (some ⟨q, 0, none⟩), .int .u32 v] w (fun r w' => r = .tuple ⟨[]⟩ ∧ Wrote w w' q F (l ++ beN v 4) lim) := by
  refine Does.enter (fn := Tryz.f165) (by kernel_rfl) rfl (by kernel_rfl) (by kernel_rfl) ?_
  conv => whnf
  refine (numberN_does (n := 4) h (by decide) (by simpa using hr) hl h0 h1).mono ?_
  rintro r w' ⟨rfl, hw⟩
  conv => whnf
  exact ⟨rfl, hw⟩
end Go.Proofs.YtofomopdaponbaaGreatDoor
/-
  Small words for walks: a cond whose test is known.
-/
namespace Go.Proofs.YtofomopdaponbaaGreatDoor
open Go.RowKit
theorem vc.T {P : Program} {n : Nat} {c : Operand} {a b : Code} {N : Fr → World → Prop} {X : Exit → Fr → World → Prop} {ρ : Fr} {w : World} (e : ev ρ c = .bool true) (h : vc P n a N X ρ w) : vc P n (.cond c a b) N X ρ w := by
  unfold vc
  rw [e]
  exact h
theorem vc.N {P : Program} {n : Nat} {c : Operand} {a b : Code} {N : Fr → World → Prop} {X : Exit → Fr → World → Prop} {ρ : Fr} {w : World} (e : ev ρ c = .bool false) (h : vc P n b N X ρ w) : vc P n (.cond c a b) N X ρ w := by
  unfold vc
  rw [e]
  exact h
theorem vc.S {P : Program} {n : Nat} {N : Fr → World → Prop} {X : Exit → Fr → World → Prop} {ρ : Fr} {w : World} (h : N ρ w) : vc P n .skip N X ρ w := h
/-- The cond's test fails, its other way is empty. -/
theorem vc.NS {P : Program} {n : Nat} {c : Operand} {a : Code} {N : Fr → World → Prop} {X : Exit → Fr → World → Prop} {ρ : Fr} {w : World} (e : ev ρ c = .bool false) (h : N ρ w) : vc P n (.cond c a .skip) N X ρ w := vc.N e h
/-- Of what lies behind a region that draws only this is known. -/
theorem VDraw.cut {P : Program} {n : Nat} {ops : Array Oper} {N : Fr → World → Prop} {ρ : Fr} {w : World} {α : Type} (rs : List (Nat × Nat)) (g : α → List (Nat × Value)) (I : α → World → Prop)
    (hok : covers (dstsOf ops.toList) rs = true) (h : VDraw P n ops (fun ρ' w' => ∃ y, fits ρ' (g y) ∧ I y w') ρ w) (hN : ∀ (y : α) (w' : World) (j : Fr), I y w' → N (head ρ rs (g y) j) w') : VDraw P n ops N ρ w :=
  ⟨fun id a Q hn hd hfr hQ => h.run id a Q hn hd hfr (fun a' w' h1 h2 h3 ⟨y, h4, h5⟩ => hQ a' w' h1 h2 h3 (by
    have := hN y w' (fr a') h5
    rwa [head_eq hok h3 h4] at this))⟩
/-- One step: a sequence, a block; a way out of a block. -/
theorem vc.q {P : Program} {n : Nat} {a b : Code} {N : Fr → World → Prop} {X : Exit → Fr → World → Prop} {ρ : Fr} {w : World} (hj : joins a = false) (h : vc P n a (fun ρ' w' => vc P n b N X ρ' w') X ρ w) : vc P n (.seq a b) N X ρ w := by
  unfold vc
  rw [hj]
  exact h
theorem vc.b {P : Program} {n id : Nat} {b : Code} {N : Fr → World → Prop} {X : Exit → Fr → World → Prop} {ρ : Fr} {w : World} (h : ∀ X' : Exit → Fr → World → Prop, (∀ ρ w, N ρ w → X' (.exit id) ρ w) → (∀ ρ w, X .ret ρ w → X' .ret ρ w) → vc P n b N X' ρ w) : vc P n (.block id b) N X ρ w := by
  unfold vc
  refine h _ (fun ρ w hn => ?_) (fun ρ w hx => hx)
  show (bif Nat.beq id id then N ρ w else X (.exit id) ρ w)
  rw [Nat.beq_refl]
  exact hn
end Go.Proofs.YtofomopdaponbaaGreatDoor
/-
  icmp: a message is laid (Build), its checksum.
-/
namespace Go.Proofs.YtofomopdaponbaaGreatDoor
open Go.RowKit
set_option linter.unusedVariables false
set_option linter.unusedSimpArgs false

/-- A writer that was made behind w0: nothing but what is new since then was written. -/
def WrS (w0 w : World) (q : Nat) (l : List UInt8) (lim : Int) : Prop := ∃ F, Wr w q F l lim ∧ Only [] w0 w ∧ ∀ k ∈ F, w0.heap.size ≤ k
section
variable {w0 w w' : World} {q : Nat} {l : List UInt8} {lim v : Int}
theorem WrS.o (h : WrS w0 w q l lim) : Only [] w0 w := h.elim fun _ h => h.2.1
theorem WrS.t (h : WrS w0 w q l lim) (ho : Only [] w w') : WrS w0 w' q l lim := by
  obtain ⟨F, h1, h2, h3⟩ := h
  exact ⟨F, h1.o ho, h2.t0 ho, h3⟩
theorem WrS.of {F : List Nat} {l' : List UInt8} (h : Wrote w w' q F l' lim) (ho : Only [] w0 w) (hF : ∀ k ∈ F, w0.heap.size ≤ k) : WrS w0 w' q l' lim := by
  obtain ⟨F', h1, h2, h3⟩ := h
  exact ⟨F', h1, ho.trans h2 (fun k hk => .inr (hF k hk)), fun k hk => (h3 k hk).elim (hF k) (fun h => Nat.le_trans ho.size h)⟩
theorem newW_does {n : Int} (h0 : 0 ≤ n) (h1 : n ≤ 65575) : Does Tryz.prog 80 [.int .i64 n] w (fun v w' => ∃ q, v = .pointer (some ⟨q, 0, none⟩) ∧ WrS w w' q [] n) :=
  (newWriter_does h0 h1).mono fun v w' ⟨q, h1, h2, h3, h4⟩ => ⟨q, h1, [q], h3, h4, fun k hk => by
    obtain rfl : k = q := by simpa using hk
    exact h2⟩
theorem wu8_does (h : WrS w0 w q l lim) (hr : 1 ≤ lim - l.length) (hl : lim ≤ 65575) (h0 : 0 ≤ v) (h1 : v ≤ 255) : Does Tryz.prog 81 [.pointer (some ⟨q, 0, none⟩), .int .u8 v] w (fun r w' => r = .tuple ⟨[]⟩ ∧ WrS w0 w' q (l ++ [loB v]) lim) := by
  obtain ⟨F, k1, k2, k3⟩ := h
  exact (u8_does k1 hr hl h0 h1).mono fun r w' ⟨e, h⟩ => ⟨e, .of h k2 k3⟩
theorem wu16_does (h : WrS w0 w q l lim) (hr : 2 ≤ lim - l.length) (hl : lim ≤ 65575) (h0 : 0 ≤ v) (h1 : v ≤ 65535) : Does Tryz.prog 82 [.pointer (some ⟨q, 0, none⟩), .int .u16 v] w (fun r w' => r = .tuple ⟨[]⟩ ∧ WrS w0 w' q (l ++ [hiB v, loB v]) lim) := by
  obtain ⟨F, k1, k2, k3⟩ := h
  refine (u16_does k1 hr hl h0 h1).mono fun r w' ⟨e, h⟩ => ⟨e, ?_⟩
  rw [show l ++ [hiB v, loB v] = l ++ [hiB v] ++ [loB v] by simp]
  exact .of h k2 k3
theorem wu32_does (h : WrS w0 w q l lim) (hr : 4 ≤ lim - l.length) (hl : lim ≤ 65575) (h0 : 0 ≤ v) (h1 : v ≤ 4294967295) : Does Tryz.prog 165 [.pointer (some ⟨q, 0, none⟩), .int .u32 v] w (fun r w' => r = .tuple ⟨[]⟩ ∧ WrS w0 w' q (l ++ beN v 4) lim) := by
  obtain ⟨F, k1, k2, k3⟩ := h
  exact (u32_does k1 hr hl h0 h1).mono fun r w' ⟨e, h⟩ => ⟨e, .of h k2 k3⟩
theorem wbs_does {G : List Nat} {b : List UInt8} {B : Option Addr} {m d : Nat} (h : WrS w0 w q l lim) (hb : Bs w0 G B m b) (hr : (b.length : Int) ≤ lim - l.length) (hl : lim ≤ 65575) : Does Tryz.prog 84 [.pointer (some ⟨q, 0, none⟩), .slice B m d] w (fun r w' => r = .tuple ⟨[]⟩ ∧ WrS w0 w' q (l ++ b) lim) := by
  obtain ⟨F, k1, k2, k3⟩ := h
  exact (wbytes_does k1 (hb.o k2) hr hl).mono fun r w' ⟨e, h⟩ => ⟨e, .of h k2 k3⟩
theorem wfin_does (h : WrS w0 w q l lim) (hl : l.length ≤ 140737488355328) : Does Tryz.prog 85 [.pointer (some ⟨q, 0, none⟩)] w (fun r w' => ∃ A c FX, r = .tuple ⟨[.slice A l.length c, .int .i64 0]⟩ ∧ Row w' 5 1 FX A l.length c (l.map u8) ∧ Only [] w0 w' ∧ (∀ k ∈ FX, w0.heap.size ≤ k)) := by
  obtain ⟨F, k1, k2, k3⟩ := h
  exact (wout_does k1 hl).mono fun r w' ⟨A, c, FX, e, h1, h2, h3⟩ => ⟨A, c, FX, e, h1, k2.t0 h2, fun k hk => Nat.le_trans k2.size (h3 k hk)⟩
end

structure Mg where
  v : Int
  typ : Int
  code : Int
  rest : Int
  body : List UInt8
def mgC (m : Mg) (D : At) : List Value := [.int .i64 m.v, .int .i64 m.typ, .int .i64 m.code, .int .u32 m.rest, .slice D.1 m.body.length D.2]
theorem one_mgC (m : Mg) (D : At) : ∀ u ∈ mgC m D, isOne u = true := one_cons rfl (one_cons rfl (one_cons rfl (one_cons rfl (one_cons rfl one_nil))))
def zeroM : Mg := ⟨0, 0, 0, 0, []⟩
def ofA (a : Ad) (v : Int) : Bool := decide (a.1 = v) && validA a
set_option maxRecDepth 100000 in
theorem icOf_does {w : World} {a : Ad} {v : Int} (h : okAd a) : Does Tryz.prog 163 [.agg ⟨adC a⟩, .int .i64 v] w (fun r w' => r = .bool (ofA a v) ∧ Only [] w w') := by
  have hA := Only.alloc (Only.refl [] w) (.cells ⟨adC a⟩ 24)
  have b2 := Blk.new w 24 ⟨adC a⟩
  refine Does.enter (fn := Tryz.f163) (by kernel_rfl) rfl (by kernel_rfl) (by kernel_rfl) ?_
  conv => whnf
  refine ⟨_, Loads.one (by kernel_rfl) (b2.at (i := 0) rfl), ?_⟩
  conv => whnf
  refine VIf.eq (fun h1 => ?_) (fun h1 => ?_)
  rotate_left
  · conv => whnf
    exact ⟨congrArg Value.bool (by unfold ofA; rw [decide_eq_false h1]; rfl), hA⟩
  conv => whnf
  refine ⟨_, Loads.all b2 (by kernel_rfl) (by rw [adC_len h]; kernel_rfl), ?_⟩
  conv => whnf
  refine (valid_does h).mono ?_
  rintro r w2 ⟨rfl, ho2⟩
  conv => whnf
  exact ⟨congrArg Value.bool (by unfold ofA; rw [decide_eq_true h1]; rfl), hA.t0 ho2⟩
def mostV (v : Int) : Int := if v = 4 then 65515 else 65535
set_option maxRecDepth 100000 in
theorem icMost_does {w : World} {v : Int} : Does Tryz.prog 164 [.int .i64 v] w (fun r w' => r = .int .i64 (mostV v) ∧ w = w') := by
  refine Does.enter (fn := Tryz.f164) (by kernel_rfl) rfl (by kernel_rfl) (by kernel_rfl) ?_
  conv => whnf
  refine VIf.eq (fun h => ?_) (fun h => ?_)
  · conv => whnf
    exact ⟨congrArg (Value.int .i64) (if_pos h).symm, rfl⟩
  · conv => whnf
    exact ⟨congrArg (Value.int .i64) (if_neg h).symm, rfl⟩
def icSum (a b : Ad) (l : List UInt8) : Int := if a.1 = 6 then addI (pseudoI a b 58 l.length) (partL l) else partL l
theorem icSum_bd (a b : Ad) (l : List UInt8) : 0 ≤ icSum a b l ∧ icSum a b l ≤ 65535 := by
  unfold icSum
  split
  · exact addI_bd (pseudoI_bd _ _ (by decide) _).1 (partL_bd _).1
  · exact partL_bd _
set_option maxRecDepth 100000 in
theorem check_does {w : World} {a b : Ad} {G : List Nat} {A : Option Addr} {n c : Nat} {l : List UInt8} (ha : okAd a) (hb : okAd b) (hp : a.1 = 6 → pairA a b = true) (hl : Bs w G A n l) (hn : n ≤ 65535) (hc : n ≤ c) :
    Does Tryz.prog 166 [.agg ⟨adC a⟩, .agg ⟨adC b⟩, .slice A n c] w (fun r w' => r = .int .u16 (65535 - icSum a b l) ∧ Only [] w w') := by
  have hA := (Only.alloc (Only.refl [] w) (.cells ⟨adC a⟩ 24)).alloc (.cells ⟨adC b⟩ 24)
  have b3 := (Blk.new w 24 ⟨adC a⟩).alloc (.cells ⟨adC b⟩ 24)
  have b4 := Blk.new (w.alloc (.cells ⟨adC a⟩ 24)) 24 ⟨adC b⟩
  have hll := hl.len
  have hpb := partL_bd l
  have hsb := icSum_bd a b l
  have eW : IntKind.u16.wrap (65535 - icSum a b l) = 65535 - icSum a b l := by rw [wr16]; omega
  refine Does.enter (fn := Tryz.f166) (by kernel_rfl) rfl (by kernel_rfl) (by kernel_rfl) ?_
  conv => whnf
  refine (part_does (hl.o hA) hc (by omega)).mono ?_
  rintro r w1 ⟨rfl, ho1⟩
  have hw1 := hA.t0 ho1
  conv => whnf
  refine VJoin.go (by kernel_rfl) ?_
  conv => whnf
  refine ⟨_, Loads.one (by kernel_rfl) ((b3.only ho1 (by simp)).at (i := 0) rfl), ?_⟩
  conv => whnf
  refine VIf.eq (fun h6 => ?_) (fun h6 => ?_)
  · have hi : icSum a b l = addI (pseudoI a b 58 l.length) (partL l) := if_pos h6
    conv => whnf
    refine ⟨_, Loads.all (b3.only ho1 (by simp)) (by kernel_rfl) (by rw [adC_len ha]; kernel_rfl), ?_⟩
    conv => whnf
    refine ⟨_, Loads.all (b4.only ho1 (by simp)) (by kernel_rfl) (by rw [adC_len hb]; kernel_rfl), ?_⟩
    conv => whnf
    refine (pseudo_does (n := n) ha hb (hp h6) (by decide) hn).mono ?_
    rintro r w2 ⟨rfl, ho2⟩
    have hps := pseudoI_bd a b (proto := 58) (by decide) n
    conv => whnf
    refine (add_does hps.1 hps.2 hpb.1 hpb.2).mono ?_
    rintro r w3 ⟨rfl, rfl⟩
    conv => whnf
    rw [← hll, ← hi]
    exact ⟨congrArg (Value.int .u16) eW, hw1.t0 ho2⟩
  · have hi : icSum a b l = partL l := if_neg h6
    conv => whnf
    rw [← hi]
    exact ⟨congrArg (Value.int .u16) eW, hw1⟩
/-- A message's bytes, the two of the checksum 0. -/
def msg0 (m : Mg) : List UInt8 := [loB m.typ] ++ [loB m.code] ++ [hiB 0, loB 0] ++ beN m.rest 4 ++ m.body
def icL (a b : Ad) (m : Mg) : List UInt8 := setW (msg0 m) 2 (65535 - icSum a b (msg0 m))
theorem msg0_len (m : Mg) : (msg0 m).length = 8 + m.body.length := by simp [msg0, beN_len]; omega
theorem icL_len (a b : Ad) (m : Mg) : (icL a b m).length = 8 + m.body.length := by rw [icL, setW_len, msg0_len]
/-- What a message must be to be laid. -/
structure okMg (a b : Ad) (m : Mg) : Prop where
  v : m.v = 4 ∨ m.v = 6
  a : ofA a m.v = true
  b : ofA b m.v = true
  typ : 0 ≤ m.typ ∧ m.typ ≤ 255
  code : 0 ≤ m.code ∧ m.code ≤ 255
  rest : 0 ≤ m.rest ∧ m.rest ≤ 4294967295
  len : m.body.length ≤ 65507
theorem okMg.pair {a b : Ad} {m : Mg} (h : okMg a b m) : pairA a b = true := by
  have h1 := h.a
  have h2 := h.b
  unfold ofA at h1 h2
  simp only [Bool.and_eq_true, decide_eq_true_eq] at h1 h2
  unfold pairA
  rw [h1.1, h2.1, h1.2, h2.2]
  simp
set_option maxHeartbeats 1000000 in
set_option maxRecDepth 100000 in
theorem icBuild_does {w : World} {a b : Ad} {m : Mg} {G : List Nat} {D : At} (ha : okAd a) (hb : okAd b) (hm : okMg a b m) (hG : Bs w G D.1 m.body.length m.body) :
    Does Tryz.prog 99 [.agg ⟨adC a⟩, .agg ⟨adC b⟩, .agg ⟨mgC m D⟩] w (fun r w' => ∃ A c FX, r = .tuple ⟨[.slice A (icL a b m).length c, .int .i64 0]⟩ ∧ Row w' 5 1 FX A (icL a b m).length c ((icL a b m).map u8) ∧ Only [] w w' ∧ ∀ k ∈ FX, w.heap.size ≤ k) := by
  have hA := ((Only.alloc (Only.refl [] w) (.cells ⟨adC a⟩ 24)).alloc (.cells ⟨adC b⟩ 24)).alloc (.cells ⟨mgC m D⟩ 93)
  have b3 := ((Blk.new w 24 ⟨adC a⟩).alloc (.cells ⟨adC b⟩ 24)).alloc (.cells ⟨mgC m D⟩ 93)
  have b4 := (Blk.new (w.alloc (.cells ⟨adC a⟩ 24)) 24 ⟨adC b⟩).alloc (.cells ⟨mgC m D⟩ 93)
  have b5 := Blk.new ((w.alloc (.cells ⟨adC a⟩ 24)).alloc (.cells ⟨adC b⟩ 24)) 93 ⟨mgC m D⟩
  have hl0 := msg0_len m
  have hpair := hm.pair
  have hoa := hm.a
  have hob := hm.b
  obtain ⟨v, typ, code, rest, body⟩ := m
  obtain ⟨hv, -, -, ht, hc, hr, hl⟩ := hm
  dsimp only at hv ht hc hr hl hG hoa hob hl0
  have et : IntKind.u8.wrap typ = typ := by rw [wr8]; omega
  have ec : IntKind.u8.wrap code = code := by rw [wr8]; omega
  have e8 : IntKind.i64.wrap (8 + (body.length : Int)) = 8 + body.length := wi_id (by omega) (by omega)
  have hGA := hG.o hA
  refine Does.enter (fn := Tryz.f99) (by kernel_rfl) rfl (by kernel_rfl) (by kernel_rfl) ?_
  refine vc.abs fun N0 hN => ?_
  conv => whnf
  refine hN _ _ ?_
  clear hN N0
  have hno : decide (IntKind.i64.wrap (8 + (body.length : Int)) > mostV v) = false := decide_eq_false (by rw [e8]; unfold mostV; split <;> omega)
  obtain ⟨m0, hm0⟩ : ∃ x, msg0 ⟨v, typ, code, rest, body⟩ = x := ⟨_, rfl⟩
  rw [hm0] at hl0
  rcases hv with rfl | rfl
  all_goals
    refine vc.abs2 rfl fun N1 hN1 => ?_
    conv => whnf
    refine ⟨_, Loads.one (by kernel_rfl) (b5.at (i := 0) rfl), ?_⟩
    conv => whnf
    first
    | refine ⟨_, Loads.all b3 (by kernel_rfl) (by rw [adC_len ha]; kernel_rfl), ?_⟩
    | refine ⟨_, Loads.one (by kernel_rfl) (b5.at (i := 0) rfl), ?_⟩
      conv => whnf
      refine ⟨_, Loads.all b3 (by kernel_rfl) (by rw [adC_len ha]; kernel_rfl), ?_⟩
    conv => whnf
    refine ⟨_, Loads.one (by kernel_rfl) (b5.at (i := 0) rfl), ?_⟩
    conv => whnf
    refine (icOf_does ha).mono ?_
    rw [hoa]
    rintro r w1 ⟨rfl, ho1⟩
    have b31 := b3.only ho1 (by simp)
    have b41 := b4.only ho1 (by simp)
    have b51 := b5.only ho1 (by simp)
    conv => whnf
    refine ⟨_, Loads.all b41 (by kernel_rfl) (by rw [adC_len hb]; kernel_rfl), ?_⟩
    conv => whnf
    refine ⟨_, Loads.one (by kernel_rfl) (b51.at (i := 0) rfl), ?_⟩
    conv => whnf
    refine (icOf_does hb).mono ?_
    rw [hob]
    rintro r w2 ⟨rfl, ho2⟩
    have b32 := b31.only ho2 (by simp)
    have b42 := b41.only ho2 (by simp)
    have b52 := b51.only ho2 (by simp)
    have hw2 := (hA.t0 ho1).t0 ho2
    conv => whnf
    refine ⟨_, Loads.one (by kernel_rfl) (b52.at (i := 1) rfl), ?_⟩
    conv => whnf
    refine VIf.dec (fun h => ?_) (fun _ => ?_)
    · have h : typ < 0 := h
      omega
    conv => whnf
    refine ⟨_, Loads.one (by kernel_rfl) (b52.at (i := 1) rfl), ?_⟩
    conv => whnf
    refine VIf.dec (fun h => ?_) (fun _ => ?_)
    · have h : typ > 255 := h
      omega
    conv => whnf
    refine ⟨_, Loads.one (by kernel_rfl) (b52.at (i := 2) rfl), ?_⟩
    conv => whnf
    refine VIf.dec (fun h => ?_) (fun _ => ?_)
    · have h : code < 0 := h
      omega
    conv => whnf
    refine ⟨_, Loads.one (by kernel_rfl) (b52.at (i := 2) rfl), ?_⟩
    conv => whnf
    refine hN1 _ _ ?_
    refine vc.NS (congrArg Value.bool (decide_eq_false (show ¬ code > 255 by omega))) ?_
    clear hN1 N1 b3 b4 b5 b31 b41 b51
    conv => whnf
    refine VDraw.abs fun N2 hN2 => ?_
    refine VDraw.q (by kernel_rfl) (by kernel_rfl) ?_
    conv => whnf
    refine ⟨_, fun w' hw' => Loads.one (by kernel_rfl) ((b52.only hw' (by simp)).at (i := 4) rfl), ?_⟩
    conv => whnf
    refine ⟨_, fun w' hw' => Loads.one (by kernel_rfl) ((b52.only hw' (by simp)).at (i := 0) rfl), ?_⟩
    conv => whnf
    refine ⟨_, fun w' hw' => icMost_does.qe hw', ?_⟩
    conv => whnf
    intro w3 ho3
    refine hN2 _ _ ?_
    refine vc.NS (congrArg Value.bool hno) ?_
    clear hN2 N2
    have b3a := b32.only ho3 (by simp)
    have b4a := b42.only ho3 (by simp)
    have b5a := b52.only ho3 (by simp)
    have hw3 := hw2.t0 ho3
    have hG3 := hG.o hw3
    clear b32 b42 b52
    conv => whnf
    refine (newW_does (by decide) (by decide)).mono ?_
    rintro r w4 ⟨q, rfl, hq⟩
    conv => whnf
    refine ⟨_, Loads.one (by kernel_rfl) ((b5a.only hq.o (by simp)).at (i := 1) rfl), ?_⟩
    conv => whnf
    rw [et]
    refine (wu8_does hq (by decide) (by decide) ht.1 ht.2).mono ?_
    rintro r w5 ⟨rfl, hq⟩
    conv => whnf
    refine ⟨_, Loads.one (by kernel_rfl) ((b5a.only hq.o (by simp)).at (i := 2) rfl), ?_⟩
    conv => whnf
    rw [ec]
    refine (wu8_does hq (by simp) (by decide) hc.1 hc.2).mono ?_
    rintro r w6 ⟨rfl, hq⟩
    conv => whnf
    refine (wu16_does hq (by simp) (by decide) (by decide) (by decide)).mono ?_
    rintro r w7 ⟨rfl, hq⟩
    conv => whnf
    refine ⟨_, Loads.one (by kernel_rfl) ((b5a.only hq.o (by simp)).at (i := 3) rfl), ?_⟩
    conv => whnf
    refine (wu32_does hq (by simp) (by decide) hr.1 hr.2).mono ?_
    rintro r w8 ⟨rfl, hq⟩
    conv => whnf
    refine ⟨_, Loads.one (by kernel_rfl) ((b5a.only hq.o (by simp)).at (i := 4) rfl), ?_⟩
    conv => whnf
    refine (wbs_does hq hG3 (by simp [beN_len]; omega) (by decide)).mono ?_
    rintro r w9 ⟨rfl, hq⟩
    conv => whnf
    refine (wfin_does hq (by simp [beN_len]; omega)).mono ?_
    rintro r w10 ⟨A, c, FX, rfl, hrow, ho10, hFX⟩
    have hb0 : (([] ++ [loB typ] ++ [loB code] ++ [hiB 0, loB 0] ++ beN rest 4 ++ body : List UInt8)) = m0 := hm0
    rw [hb0] at hrow ⊢
    have hcs := icSum_bd a b m0
    have z10 := ho10.size
    conv => whnf
    refine ⟨_, Loads.all (b3a.only ho10 (by simp)) (by kernel_rfl) (by rw [adC_len ha]; kernel_rfl), ?_⟩
    conv => whnf
    refine ⟨_, Loads.all (b4a.only ho10 (by simp)) (by kernel_rfl) (by rw [adC_len hb]; kernel_rfl), ?_⟩
    conv => whnf
    refine (check_does ha hb (fun _ => hpair) (Row.bs hrow) (by omega) hrow.le.1).mono ?_
    rintro r w11 ⟨rfl, ho11⟩
    have hrow1 := hrow.only ho11 (by simp)
    obtain ⟨g, rfl, rfl, hf, ⟨u, hu⟩, hr1⟩ := hrow1.put (i := 2) (v := u8 (hiB (65535 - icSum a b m0))) (by omega)
    obtain ⟨g', e, _, hf2, ⟨u2, hu2⟩, hr2⟩ := hr1.put (i := 3) (v := u8 (loB (65535 - icSum a b m0))) (by omega)
    cases e
    have e1 : IntKind.u8.wrap ((65535 - icSum a b m0) / pw 8 .u16) = ((hiB (65535 - icSum a b m0)).toNat : Int) := by rw [wr8, show pw 8 .u16 = 256 from rfl, hiB_eq (by omega) (by omega)]; omega
    have e2 : IntKind.u8.wrap (65535 - icSum a b m0) = ((loB (65535 - icSum a b m0)).toNat : Int) := by rw [wr8, loB_eq (by omega)]
    conv => whnf
    refine ⟨_, _, rfl, 2, 2, rfl, by omega, p0 _, ?_⟩
    conv => whnf
    rw [e1]
    refine ⟨_, Stores.one (by kernel_rfl) rfl hu hf, ?_⟩
    conv => whnf
    refine ⟨_, _, rfl, 3, 3, rfl, by omega, p0 _, ?_⟩
    conv => whnf
    rw [e2]
    refine ⟨_, Stores.one (by kernel_rfl) rfl hu2 hf2, ?_⟩
    conv => whnf
    refine ⟨some ⟨g, 0, none⟩, c, [g], by rw [icL, setW_len, hm0], ?_, ((hw3.t0 ho10).t0 ho11).trans (((Only.refl [g] w11).put (.inl (by simp))).put (.inl (by simp))) (fun k hk => .inr (by have h1 := hFX k hk; have h2 := hw3.size; omega)), fun k hk => by have h1 := hFX k hk; have h2 := hw3.size; omega⟩
    rw [icL, setW_len, hm0]
    unfold setW
    rw [List.map_set, List.map_set]
    exact hr2
end Go.Proofs.YtofomopdaponbaaGreatDoor
/-
  icmp: a message is taken apart (Parse).
-/
namespace Go.Proofs.YtofomopdaponbaaGreatDoor
open Go.RowKit
set_option linter.unusedVariables false
set_option linter.unusedSimpArgs false

/-- A reader that was made behind w0. -/
def RdS (w0 w : World) (R : Nat) (l : List UInt8) : Prop := Rd w R l ∧ Only [] w0 w ∧ w0.heap.size ≤ R
section
variable {w0 w w' : World} {R : Nat} {l : List UInt8}
theorem RdS.o (h : RdS w0 w R l) : Only [] w0 w := h.2.1
theorem RdS.t (h : RdS w0 w R l) (ho : Only [] w w') : RdS w0 w' R l := ⟨h.1.only ho, h.2.1.t0 ho, h.2.2⟩
theorem RdS.far {g : Nat} (h : RdS w0 w R l) (ho : Only [g] w w') (hg : R < g) : RdS w0 w' R l := ⟨h.1.far ho hg, h.2.1.trans ho (fun k hk => .inr (by
  obtain rfl : k = g := by simpa using hk
  have := h.2.2
  omega)), h.2.2⟩
theorem RdS.of {l' : List UInt8} (h : RdS w0 w R l) (k : Rd w' R l') (ho : Only [R] w w') : RdS w0 w' R l' := ⟨k, h.2.1.trans ho (fun k hk => .inr (by
  obtain rfl : k = R := by simpa using hk
  exact h.2.2)), h.2.2⟩
theorem newR_does {G : List Nat} {A : Option Addr} {n c : Nat} (h : Bs w G A n l) (hn : n ≤ 140737488355328) : Does Tryz.prog 144 [.slice A n c] w (fun v w' => ∃ R, v = .pointer (some ⟨R, 0, none⟩) ∧ RdS w w' R l) :=
  (newReader_does h hn).mono fun v w' ⟨R, h1, h2, h3, h4⟩ => ⟨R, h1, h2, h3, h4⟩
theorem sU8_does {c : UInt8} (h : RdS w0 w R (c :: l)) : Does Tryz.prog 145 [.pointer (some ⟨R, 0, none⟩)] w (fun v w' => v = u8 c ∧ RdS w0 w' R l ∧ Only [R] w w') :=
  (rU8_does h.1).mono fun v w' ⟨h1, h2, h3⟩ => ⟨h1, h.of h2 h3, h3⟩
theorem sU16_does {a b : UInt8} (h : RdS w0 w R (a :: b :: l)) : Does Tryz.prog 146 [.pointer (some ⟨R, 0, none⟩)] w (fun v w' => v = .int .u16 ((a.toNat : Int) * 256 + (b.toNat : Int)) ∧ RdS w0 w' R l ∧ Only [R] w w') :=
  (rU16_does h.1).mono fun v w' ⟨h1, h2, h3⟩ => ⟨h1, h.of h2 h3, h3⟩
set_option maxRecDepth 100000 in
theorem sU32_does {a b c d : UInt8} (h : RdS w0 w R (a :: b :: c :: d :: l)) : Does Tryz.prog 167 [.pointer (some ⟨R, 0, none⟩)] w (fun v w' => v = .int .u32 (beL [a, b, c, d]) ∧ RdS w0 w' R l ∧ Only [R] w w') := by
  refine Does.enter (fn := Tryz.f167) (by kernel_rfl) rfl (by kernel_rfl) (by kernel_rfl) ?_
  conv => whnf
  refine (number_does (k := 4) h.1 (by simp) (by omega)).mono ?_
  rintro v w1 ⟨rfl, hR, ho⟩
  conv => whnf
  exact ⟨rfl, h.of hR ho, ho⟩
theorem sLeft_does (h : RdS w0 w R l) : Does Tryz.prog 148 [.pointer (some ⟨R, 0, none⟩)] w (fun v w' => v = .int .i64 l.length ∧ w = w') := rLeft_does h.1
theorem sBytes_does {k : Nat} (h : RdS w0 w R l) (hk : k ≤ l.length) (hl : l.length ≤ 140737488355328) : Does Tryz.prog 147 [.pointer (some ⟨R, 0, none⟩), .int .i64 k] w
    (fun v w' => ∃ A c G, v = .slice A k c ∧ k ≤ c ∧ c ≤ 9223372036854775807 ∧ Bs w' G A k (l.take k) ∧ RdS w0 w' R (l.drop k) ∧ Only [R] w w' ∧ ∀ j ∈ G, R < j ∧ w.heap.size ≤ j ∧ j < w'.heap.size) := by
  refine (rBytes_does h.1 hk hl).mono fun v w' ⟨w1, ⟨A, n, c, G, hv, hr, ho, hG⟩, ho1, hR⟩ => ?_
  have hn : n = k := by
    have := hr.len
    rw [List.length_map, List.length_take] at this
    omega
  subst hn
  have hw : Only [R] w w' := ho1.f0 ho
  have hle := hr.le
  refine ⟨A, c, G, hv, hle.1, by have := hle.2; unfold maxLen at this; exact this, Row.bs hr, h.of hR hw, hw, fun j hj => ?_⟩
  have h1 := hG j hj
  have h2 := h.1.lt
  have h3 := ho1.size
  exact ⟨by omega, by omega, hr.lt j hj⟩
end
/-- The bytes of a message, the two of the checksum 0. -/
def clear2 (l : List UInt8) : List UInt8 := (l.set 2 0).set 3 0
def icRight (a b : Ad) (l : List UInt8) : Bool := decide (((l.getD 2 0).toNat : Int) * 256 + (l.getD 3 0).toNat = 65535 - icSum a b (clear2 l))
def icE (a b : Ad) (l : List UInt8) : Int :=
  if (validA a && ofA b a.1) = false then 1 else if l.length < 8 then 20 else if (l.length : Int) > mostV a.1 then 3 else if icRight a b l = false then 52 else 0
def icP (a b : Ad) (l : List UInt8) : Mg := if icE a b l = 0 then ⟨a.1, (l.getD 0 0).toNat, (l.getD 1 0).toNat, beL ((l.drop 4).take 4), l.drop 8⟩ else zeroM
theorem ic_fail {w w' : World} {a b : Ad} {l : List UInt8} {e : Int} (he : icE a b l = e) (h0 : e ≠ 0) (ho : Only [] w w') : ∃ D G, Value.tuple ⟨[.agg ⟨mgC zeroM (none, 0)⟩, .int .i64 e]⟩ = .tuple ⟨[.agg ⟨mgC (icP a b l) D⟩, .int .i64 (icE a b l)]⟩ ∧ Bs w' G D.1 (icP a b l).body.length (icP a b l).body ∧ (∀ j ∈ G, w.heap.size ≤ j ∧ j < w'.heap.size) ∧ (icP a b l).body.length ≤ D.2 ∧ D.2 ≤ 9223372036854775807 ∧ Only [] w w' := by
  have : icP a b l = zeroM := if_neg (by rw [he]; exact h0)
  rw [this, he]
  exact ⟨(none, 0), [], rfl, Sl.nil _ _ _ _, by simp, by decide, by decide, ho⟩
theorem mostV_le (v : Int) : mostV v ≤ 65535 := by unfold mostV; split <;> decide
set_option maxHeartbeats 1000000 in
set_option maxRecDepth 100000 in
theorem icParse_does {w : World} {a b : Ad} {G : List Nat} {A : Option Addr} {n c : Nat} {l : List UInt8} (ha : okAd a) (hb : okAd b) (hl : Bs w G A n l) (hc : n ≤ c) (hn : n ≤ 140737488355328) :
    Does Tryz.prog 100 [.agg ⟨adC a⟩, .agg ⟨adC b⟩, .slice A n c] w (fun v w' => ∃ D G, v = .tuple ⟨[.agg ⟨mgC (icP a b l) D⟩, .int .i64 (icE a b l)]⟩ ∧ Bs w' G D.1 (icP a b l).body.length (icP a b l).body ∧ (∀ j ∈ G, w.heap.size ≤ j ∧ j < w'.heap.size) ∧ (icP a b l).body.length ≤ D.2 ∧ D.2 ≤ 9223372036854775807 ∧ Only [] w w') := by
  have hll := hl.len
  have hA := ((Only.alloc (Only.refl [] w) (.cells ⟨adC a⟩ 24)).alloc (.cells ⟨adC b⟩ 24)).alloc (.cells ⟨mgC zeroM (none, 0)⟩ 93)
  have b3 := ((Blk.new w 24 ⟨adC a⟩).alloc (.cells ⟨adC b⟩ 24)).alloc (.cells ⟨mgC zeroM (none, 0)⟩ 93)
  have b4 := (Blk.new (w.alloc (.cells ⟨adC a⟩ 24)) 24 ⟨adC b⟩).alloc (.cells ⟨mgC zeroM (none, 0)⟩ 93)
  have b6 := Blk.new ((w.alloc (.cells ⟨adC a⟩ 24)).alloc (.cells ⟨adC b⟩ 24)) 93 ⟨mgC zeroM (none, 0)⟩
  have hw6 : w.heap.size ≤ ((w.alloc (.cells ⟨adC a⟩ 24)).alloc (.cells ⟨adC b⟩ 24)).heap.size := ((Only.alloc (Only.refl [] w) (.cells ⟨adC a⟩ 24)).alloc (.cells ⟨adC b⟩ 24)).size
  have hfail : ∀ {wz : World} {e : Int} {K : Value → World → Prop}, Only [] w wz → icE a b l = e → e ≠ 0 → Blk wz ((w.alloc (.cells ⟨adC a⟩ 24)).alloc (.cells ⟨adC b⟩ 24)).heap.size 93 ⟨mgC zeroM (none, 0)⟩ → True := fun _ _ _ _ => trivial
  have eof : ofA a a.1 = validA a := by unfold ofA; simp
  refine Does.enter (fn := Tryz.f100) (by kernel_rfl) rfl (by kernel_rfl) (by kernel_rfl) ?_
  refine vc.abs fun N0 hN => ?_
  conv => whnf
  refine hN _ _ ?_
  clear hN N0 hfail
  refine vc.q rfl ?_
  refine vc.b fun X1 hX1 hR1 => ?_
  refine vc.abs fun N1 hN1 => ?_
  conv => whnf
  refine ⟨_, Loads.all b3 (by kernel_rfl) (by rw [adC_len ha]; kernel_rfl), ?_⟩
  conv => whnf
  refine ⟨_, Loads.one (by kernel_rfl) (b3.at (i := 0) rfl), ?_⟩
  conv => whnf
  refine (icOf_does ha).mono ?_
  rw [eof]
  rintro r w1 ⟨rfl, ho1⟩
  have b31 := b3.only ho1 (by simp)
  have b41 := b4.only ho1 (by simp)
  have b61 := b6.only ho1 (by simp)
  have hw1 := hA.t0 ho1
  conv => whnf
  refine VIf.not (VIf.of (b := validA a) (fun hv => ?_) (fun hv => ?_))
  rotate_left
  · conv => whnf
    refine hN1 _ _ ?_
    refine vc.T rfl ?_
    have hE : icE a b l = 1 := if_pos (by rw [hv]; rfl)
    conv => whnf
    refine vStore.all (cs := mgC zeroM (none, 0)) b61 (by kernel_rfl) (by kernel_rfl) (one_mgC _ _) (fun wz bz hoz _ => ?_)
    conv => whnf
    refine hR1 _ _ ?_
    conv => whnf
    refine ⟨_, Loads.all bz (by kernel_rfl) (by kernel_rfl), ?_⟩
    conv => whnf
    exact ic_fail hE (by decide) ((hw1).nw hoz hw6)
  conv => whnf
  refine ⟨_, Loads.all b41 (by kernel_rfl) (by rw [adC_len hb]; kernel_rfl), ?_⟩
  conv => whnf
  refine ⟨_, Loads.one (by kernel_rfl) (b31.at (i := 0) rfl), ?_⟩
  conv => whnf
  refine (icOf_does hb).mono ?_
  rintro r w2 ⟨rfl, ho2⟩
  have b32 := b31.only ho2 (by simp)
  have b42 := b41.only ho2 (by simp)
  have b62 := b61.only ho2 (by simp)
  have hw2 := hw1.t0 ho2
  conv => whnf
  refine hN1 _ _ ?_
  clear hN1 N1 b3 b4 b6 b31 b41 b61
  cases hvb : ofA b a.1
  · refine vc.T rfl ?_
    have hE : icE a b l = 1 := if_pos (by rw [hv, hvb]; rfl)
    conv => whnf
    refine vStore.all (cs := mgC zeroM (none, 0)) b62 (by kernel_rfl) (by kernel_rfl) (one_mgC _ _) (fun wz bz hoz _ => ?_)
    conv => whnf
    refine hR1 _ _ ?_
    conv => whnf
    refine ⟨_, Loads.all bz (by kernel_rfl) (by kernel_rfl), ?_⟩
    conv => whnf
    exact ic_fail hE (by decide) ((hw2).nw hoz hw6)
  refine vc.N rfl ?_
  have g1 : ¬ (validA a && ofA b a.1) = false := by rw [hv, hvb]; decide
  have hpair : pairA a b = true := by
    unfold ofA at hvb
    simp only [Bool.and_eq_true, decide_eq_true_eq] at hvb
    unfold pairA
    rw [hv, hvb.2, ← hvb.1]
    simp
  conv => whnf
  refine VIf.dec (fun h8 => ?_) (fun h8 => ?_)
  · have h8 : (n : Int) < 8 := h8
    have hE : icE a b l = 20 := by unfold icE; rw [if_neg g1, if_pos (by omega)]
    conv => whnf
    refine vStore.all (cs := mgC zeroM (none, 0)) b62 (by kernel_rfl) (by kernel_rfl) (one_mgC _ _) (fun wz bz hoz _ => ?_)
    conv => whnf
    refine hR1 _ _ ?_
    conv => whnf
    refine ⟨_, Loads.all bz (by kernel_rfl) (by kernel_rfl), ?_⟩
    conv => whnf
    exact ic_fail hE (by decide) ((hw2).nw hoz hw6)
  have h8 : ¬ (n : Int) < 8 := h8
  have g2 : ¬ l.length < 8 := by omega
  conv => whnf
  refine ⟨_, Loads.one (by kernel_rfl) (b32.at (i := 0) rfl), ?_⟩
  conv => whnf
  refine icMost_does.mono ?_
  rintro r w3 ⟨rfl, rfl⟩
  conv => whnf
  refine VIf.dec (fun h9 => ?_) (fun h9 => ?_)
  · have h9 : (n : Int) > mostV a.1 := h9
    have hE : icE a b l = 3 := by unfold icE; rw [if_neg g1, if_neg g2, if_pos (by omega)]
    conv => whnf
    refine vStore.all (cs := mgC zeroM (none, 0)) b62 (by kernel_rfl) (by kernel_rfl) (one_mgC _ _) (fun wz bz hoz _ => ?_)
    conv => whnf
    refine hR1 _ _ ?_
    conv => whnf
    refine ⟨_, Loads.all bz (by kernel_rfl) (by kernel_rfl), ?_⟩
    conv => whnf
    exact ic_fail hE (by decide) ((hw2).nw hoz hw6)
  have h9 : ¬ (n : Int) > mostV a.1 := h9
  have g3 : ¬ (l.length : Int) > mostV a.1 := by omega
  have hml := mostV_le a.1
  clear hR1 hX1
  refine vc.S ?_
  conv => whnf
  refine (cloneB_does (hl.o hw2) hn).mono ?_
  rintro r w4 ⟨X, nX, cX, FX, rfl, hrX, ho4, hFX⟩
  obtain rfl := (Row.bs hrX).len
  obtain ⟨g, rfl, rfl, hf, ⟨u, hu⟩, hr1⟩ := hrX.put (i := 2) (v := u8 0) (by omega)
  obtain ⟨g', e, _, hf2, ⟨u2, hu2⟩, hr2⟩ := hr1.put (i := 3) (v := u8 0) (by omega)
  cases e
  have hg0 : w2.heap.size ≤ g := hFX g (by simp)
  have ho5 : Only [g] w4 ((w4.setCell ⟨g, 2, none⟩ (u8 0)).setCell ⟨g, 3, none⟩ (u8 0)) := ((Only.refl _ w4).put (.inl (by simp))).put (.inl (by simp))
  have h25 := ho4.nw ho5 hg0
  have hz : ((l.map u8).set 2 (u8 0)).set 3 (u8 0) = (clear2 l).map u8 := by
    unfold clear2
    rw [List.map_set, List.map_set]
  rw [hz] at hr2
  conv => whnf
  refine ⟨_, _, rfl, 2, 2, rfl, by omega, rfl, ?_⟩
  conv => whnf
  refine ⟨_, Stores.one (by kernel_rfl) rfl hu hf, ?_⟩
  conv => whnf
  refine ⟨_, _, rfl, 3, 3, rfl, by omega, rfl, ?_⟩
  conv => whnf
  refine ⟨_, Stores.one (by kernel_rfl) rfl hu2 hf2, ?_⟩
  have b35 := b32.only h25 (by simp)
  have b45 := b42.only h25 (by simp)
  have b65 := b62.only h25 (by simp)
  have hw5 := hw2.t0 h25
  clear b32 b42 b62 hu hu2 hf hf2 hr1 hrX
  conv => whnf
  refine ⟨_, Loads.all b35 (by kernel_rfl) (by rw [adC_len ha]; kernel_rfl), ?_⟩
  conv => whnf
  refine ⟨_, Loads.all b45 (by kernel_rfl) (by rw [adC_len hb]; kernel_rfl), ?_⟩
  conv => whnf
  refine (check_does ha hb (fun _ => hpair) (Row.bs hr2) (by omega) hr2.le.1).mono ?_
  rintro r w6 ⟨rfl, ho6⟩
  have hsb := icSum_bd a b (clear2 l)
  generalize hS : icSum a b (clear2 l) = S at *
  have b36 := b35.only ho6 (by simp)
  have b66 := b65.only ho6 (by simp)
  have hw6' := hw5.t0 ho6
  have hl6 := hl.o hw6'
  obtain ⟨bl, ol, rfl, -⟩ := hl6.some_ (by omega)
  have hc2 := u8_le (l.getD 2 0)
  have hc3 := u8_le (l.getD 3 0)
  have e1 : IntKind.u8.wrap ((65535 - S) / pw 8 .u16) = (65535 - S) / 256 := by rw [wr8, show pw 8 .u16 = 256 from rfl]; omega
  have e2 : IntKind.u8.wrap (65535 - S) = (65535 - S) % 256 := wr8 _
  refine splitB.abs fun N2 hN2 => ?_
  conv => whnf
  refine hN2 _ _ ?_
  clear hN2 N2
  refine vc.abs (id := 10) fun N3 hN3 => ?_
  conv => whnf
  refine ⟨_, _, rfl, 2, ol + 2, rfl, by omega, p1 _ _, ?_⟩
  conv => whnf
  refine ⟨_, Loads.one (by kernel_rfl) (hl6.ld (getD_some (by omega))), ?_⟩
  conv => whnf
  rw [e1]
  refine VIf.ne (fun hx => ?_) (fun hx => ?_)
  · conv => whnf
    refine hN3 _ _ ?_
    refine vc.T rfl ?_
    have hE : icE a b l = 52 := by
      unfold icE
      rw [if_neg g1, if_neg g2, if_neg g3, if_pos]
      unfold icRight
      rw [hS]
      exact decide_eq_false (by omega)
    conv => whnf
    refine vStore.all (cs := mgC zeroM (none, 0)) b66 (by kernel_rfl) (by kernel_rfl) (one_mgC _ _) (fun wz bz hoz _ => ?_)
    conv => whnf
    refine ⟨_, Loads.all bz (by kernel_rfl) (by kernel_rfl), ?_⟩
    conv => whnf
    exact ic_fail hE (by decide) ((hw6').nw hoz hw6)
  conv => whnf
  refine ⟨_, _, rfl, 3, ol + 3, rfl, by omega, p1 _ _, ?_⟩
  conv => whnf
  refine ⟨_, Loads.one (by kernel_rfl) (hl6.ld (getD_some (by omega))), ?_⟩
  conv => whnf
  rw [e2]
  refine hN3 _ _ ?_
  clear hN3 N3
  by_cases hy : ((l.getD 3 0).toNat : Int) = (65535 - S) % 256
  rotate_left
  · refine vc.T (congrArg Value.bool (bne_iff_ne.2 hy)) ?_
    have hE : icE a b l = 52 := by
      unfold icE
      rw [if_neg g1, if_neg g2, if_neg g3, if_pos]
      unfold icRight
      rw [hS]
      exact decide_eq_false (by omega)
    conv => whnf
    refine vStore.all (cs := mgC zeroM (none, 0)) b66 (by kernel_rfl) (by kernel_rfl) (one_mgC _ _) (fun wz bz hoz _ => ?_)
    conv => whnf
    refine ⟨_, Loads.all bz (by kernel_rfl) (by kernel_rfl), ?_⟩
    conv => whnf
    exact ic_fail hE (by decide) ((hw6').nw hoz hw6)
  refine vc.NS (congrArg Value.bool (bne_eq_false_iff_eq.2 hy)) ?_
  have hE : icE a b l = 0 := by
    unfold icE
    rw [if_neg g1, if_neg g2, if_neg g3, if_neg]
    unfold icRight
    rw [hS, decide_eq_true (by omega)]
    decide
  conv => whnf
  refine (newR_does hl6 hn).mono ?_
  rintro r w7 ⟨R, rfl, hR⟩
  obtain ⟨c0, c1, c2, c3, c4, c5, c6, c7, t, hl8⟩ := ex8 (l := l) (by omega)
  have h67 := hR.o
  rw [hl8] at hR
  have hRlt := hR.1.lt
  have b37 := b36.only h67 (by simp)
  have b67 := b66.only h67 (by simp)
  have hw7 := hw6'.t0 h67
  have hv1 := ha.1
  have hv2 := ha.2.1
  have ec0 : IntKind.i64.wrap (c0.toNat : Int) = c0.toNat := wi_id (by omega) (by have := u8_le c0; omega)
  have ec1 : IntKind.i64.wrap (c1.toNat : Int) = c1.toNat := wi_id (by omega) (by have := u8_le c1; omega)
  conv => whnf
  refine VDraw.cut (α := Nat) [(11, 12), (67, 76)] (fun y => [(11, .pointer (some ⟨y, 0, none⟩))]) (fun y w' => RdS w6 w' R (c2 :: c3 :: c4 :: c5 :: c6 :: c7 :: t) ∧ Blk w' y 93 ⟨mgC ⟨a.1, c0.toNat, c1.toNat, 0, []⟩ (none, 0)⟩ ∧ R < y ∧ w6.heap.size ≤ y) (by kernel_rfl) ?_ ?_
  · refine VDraw.tree 10 (fun _ => True) (fun w' => Only [] w6 w') (.one 0 (.one 1 (.one 2 (.one 5 (.two 3 (.one 4 (.two 6 (.one 7 (.one 8 (.one 9 (.one 10 .done)))) 9 (.one 6 (.one 7 (.one 8 (.one 10 .done)))))) 9 (.one 3 (.one 4 (.one 6 (.one 7 (.one 8 (.one 10 .done)))))))))) ) (by kernel_rfl) (by kernel_rfl) trivial h67.drew ?_
    conv => whnf
    refine ⟨_, fun w' hw' => Loads.one (by kernel_rfl) ((b36.only hw'.2 (by simp)).at (i := 0) rfl), ?_⟩
    conv => whnf
    refine ⟨?_, ?_⟩
    · conv => whnf
      refine (sU8_does (hR.t (Only.refl [] w7).drew)).mono ?_
      rintro r w8 ⟨rfl, hR8, h78⟩
      refine ⟨⟨trivial, fun _ => hR8.o⟩, ?_⟩
      conv => whnf
      rw [ec0]
      refine ⟨?_, ?_⟩
      · conv => whnf
        refine (sU8_does hR8).mono ?_
        rintro r w9 ⟨rfl, hR9, h89⟩
        refine ⟨⟨trivial, fun _ => hR9.o⟩, ?_⟩
        conv => whnf
        rw [ec1]
        conv => whnf
        refine ⟨⟨trivial, fun _ => hR9.o.alloc _⟩, ?_⟩
        conv => whnf
        refine vStore.fresh (cs := mgC ⟨a.1, c0.toNat, c1.toNat, 0, []⟩ (none, 0)) (by kernel_rfl) (by kernel_rfl) (one_mgC _ _) (fun wa ba hoa hza => ?_)
        refine ⟨⟨trivial, fun h => Bool.noConfusion h⟩, ?_⟩
        conv => whnf
        exact ⟨w9.heap.size, ⟨rfl, trivial⟩, hR9.t hoa, ba, by have := hR9.1.lt; omega, hR9.o.size⟩
      · conv => whnf
        have b11 := Blk.new w8 93 ⟨mgC zeroM (none, 0)⟩
        have hal := (Only.refl [] w8).alloc (.cells ⟨mgC zeroM (none, 0)⟩ 93)
        have hlt8 := hR8.1.lt
        refine ⟨⟨trivial, fun _ => hR8.o.alloc _⟩, ?_⟩
        conv => whnf
        refine (sU8_does (hR8.t hal)).mono ?_
        rintro r w9 ⟨rfl, hR9, h89⟩
        refine ⟨⟨trivial, fun _ => hR9.o⟩, ?_⟩
        conv => whnf
        rw [ec1]
        refine vStore.all (cs := mgC ⟨a.1, c0.toNat, c1.toNat, 0, []⟩ (none, 0)) (b11.only h89 (by simp; omega)) (by kernel_rfl) (by kernel_rfl) (one_mgC _ _) (fun wa ba hoa _ => ?_)
        refine ⟨⟨trivial, fun h => Bool.noConfusion h⟩, ?_⟩
        conv => whnf
        exact ⟨w8.heap.size, ⟨rfl, trivial⟩, hR9.far hoa hlt8, ba, hlt8, hR8.o.size⟩
    · conv => whnf
      have b11 := Blk.new w7.drew 93 ⟨mgC zeroM (none, 0)⟩
      have hal := (Only.refl [] w7).drew.alloc (.cells ⟨mgC zeroM (none, 0)⟩ 93)
      refine ⟨⟨trivial, fun _ => h67.drew.alloc _⟩, ?_⟩
      conv => whnf
      refine (sU8_does (hR.t hal)).mono ?_
      rintro r w8 ⟨rfl, hR8, h78⟩
      refine ⟨⟨trivial, fun _ => hR8.o⟩, ?_⟩
      conv => whnf
      rw [ec0]
      refine (sU8_does hR8).mono ?_
      rintro r w9 ⟨rfl, hR9, h89⟩
      refine ⟨⟨trivial, fun _ => hR9.o⟩, ?_⟩
      conv => whnf
      rw [ec1]
      refine vStore.all (cs := mgC ⟨a.1, c0.toNat, c1.toNat, 0, []⟩ (none, 0)) ((b11.only h78 (by simp; show w7.heap.size ≠ R; omega)).only h89 (by simp; show w7.heap.size ≠ R; omega)) (by kernel_rfl) (by kernel_rfl) (one_mgC _ _) (fun wa ba hoa _ => ?_)
      refine ⟨⟨trivial, fun h => Bool.noConfusion h⟩, ?_⟩
      conv => whnf
      exact ⟨w7.heap.size, ⟨rfl, trivial⟩, hR9.far hoa hRlt, ba, hRlt, h67.size⟩
  rintro y w8 j ⟨hR8, b11, hRy, hy6⟩
  have hyR : y ∉ [R] := by simp; omega
  conv => whnf
  refine (sU16_does hR8).mono ?_
  rintro r w9 ⟨rfl, hR9, h89⟩
  have b119 := b11.only h89 hyR
  conv => whnf
  refine (sU32_does hR9).mono ?_
  rintro r w10 ⟨rfl, hR10, h910⟩
  have b1110 := b119.only h910 hyR
  conv => whnf
  refine vStore.one b1110 (by kernel_rfl) rfl (i := 3) (u := .int .u32 0) rfl (fun b12 ho11 => ?_)
  have hR11 := hR10.far ho11 hRy
  conv => whnf
  refine (sLeft_does hR11).mono ?_
  rintro r w12 ⟨rfl, rfl⟩
  conv => whnf
  refine (sBytes_does hR11 (Nat.le_refl _) (by have := congrArg List.length hl8; simp at this; omega)).mono ?_
  rintro r w13 ⟨X, cX, GX, rfl, hXc, hXm, hX, hR13, h1213, hGX⟩
  have b13 := b12.only h1213 hyR
  conv => whnf
  refine vStore.one b13 (by kernel_rfl) rfl (i := 4) (u := .slice none 0 0) rfl (fun b14 ho14 => ?_)
  conv => whnf
  have hP : icP a b l = ⟨a.1, c0.toNat, c1.toNat, beL [c4, c5, c6, c7], t⟩ := by
    unfold icP
    rw [if_pos hE, hl8]
    rfl
  have hy8 := b11.lt
  have zz1 := h89.size
  have zz2 := h910.size
  have zz3 := ho11.size
  have zz4 := hw6'.size
  have h6e := hR13.o.nw ho14 hy6
  refine ⟨_, Loads.all (cs := mgC ⟨a.1, c0.toNat, c1.toNat, beL [c4, c5, c6, c7], t⟩ (X, cX)) b14 (by kernel_rfl) (by kernel_rfl), ?_⟩
  conv => whnf
  refine vStore.all (cs := mgC ⟨a.1, c0.toNat, c1.toNat, beL [c4, c5, c6, c7], t⟩ (X, cX)) (b66.only h6e (by simp)) (by kernel_rfl) (by kernel_rfl) (one_mgC _ _) (fun wz bz hoz _ => ?_)
  conv => whnf
  refine ⟨_, Loads.all bz (by kernel_rfl) (by kernel_rfl), ?_⟩
  conv => whnf
  have h66 := b66.lt
  have hend : Only [] w wz := (hw6'.t0 h6e).nw hoz hw6
  have zz5 := h6e.size
  rw [hP, hE]
  refine ⟨(X, cX), GX, rfl, ?_, fun j hj => ?_, hXc, hXm, hend⟩
  · have hX' : Bs w13 GX X t.length t := by
      have : t.take t.length = t := List.take_length
      rw [this] at hX
      exact hX
    refine (Bs.only hX' ho14 (fun j hj hm => ?_)).only hoz (fun j hj hm => ?_)
    · have h1 := (hGX j hj).2.1
      have h2 : j = y := by simpa using hm
      omega
    · have h1 := (hGX j hj).2.1
      have h2 : j = _ := List.mem_singleton.1 hm
      omega
  · obtain ⟨h1, h2, h3⟩ := hGX j hj
    have h4 := hoz.size
    have h5 := ho14.size
    have h7 := hR8.o.size
    exact ⟨by omega, by omega⟩
end Go.Proofs.YtofomopdaponbaaGreatDoor
/-
  icmp: what a message quotes (look4), addresses, cuts.
-/
namespace Go.Proofs.YtofomopdaponbaaGreatDoor
open Go.RowKit
set_option linter.unusedVariables false
set_option linter.unusedSimpArgs false

set_option maxRecDepth 100000 in
theorem icAddr_does {w : World} {v : Int} {G : List Nat} {A : Option Addr} {n c : Nat} {l : List UInt8} (hl : Bs w G A n l) (h0 : 0 < n) (h16 : n ≤ 16) :
    Does Tryz.prog 229 [.int .i64 v, .slice A n c] w (fun r w' => r = .agg ⟨adC (v, l ++ List.replicate (16 - n) 0)⟩ ∧ Only [] w w') := by
  have hll := hl.len
  have hA := Only.alloc (Only.refl [] w) (.cells ⟨adC (0, List.replicate 16 0)⟩ 24)
  have b4 := Blk.new w 24 ⟨adC (0, List.replicate 16 0)⟩
  refine Does.enter (fn := Tryz.f229) (by kernel_rfl) rfl (by kernel_rfl) (by kernel_rfl) ?_
  conv => whnf
  refine vStore.fresh (cs := adC (v, List.replicate 16 0)) (by kernel_rfl) (by kernel_rfl) (one_adC _) (fun w2 b5 ho2 hz2 => ?_)
  have b42 := b4.only ho2 (by simp)
  have hw2 := hA.t0 ho2
  conv => whnf
  refine ⟨0, 16, 16, rfl, rfl, rfl, by decide, by decide, by decide, ⟨_, 1, none⟩, 16, 16, rfl, rfl, rfl, ?_⟩
  conv => whnf
  refine vFall.copy (e := 5) rfl (by kernel_rfl) (by kernel_rfl) rfl b5 rfl (hl.o hw2) h0 (Nat.le_of_ble_eq_true rfl) (fun w3 b6 ho3 hz3 => ?_)
  have hne : w.heap.size ≠ (w.alloc (.cells ⟨adC (0, List.replicate 16 0)⟩ 24)).heap.size := by
    have := World.size_alloc w (.cells ⟨adC (0, List.replicate 16 0)⟩ 24)
    omega
  have b43 := b42.only ho3 (fun hm => hne (List.mem_singleton.1 hm))
  have hsp : splice (adC (v, List.replicate 16 0)) 1 ((l.take 16).map u8) = adC (v, l ++ List.replicate (16 - n) 0) := by
    rw [List.take_of_length_le (by omega)]
    unfold splice adC
    have e1 : (List.map u8 l).length = n := by simp [hll]
    rw [e1, Nat.add_comm 1 n]
    simp only [List.map_append, List.map_replicate, List.take_succ_cons, List.take_zero, List.drop_succ_cons, List.drop_replicate, List.cons_append, List.nil_append]
  rw [hsp] at b6
  have hw3 : Only [] w w3 := hw2.nw ho3 hA.size
  conv => whnf
  have h17 : (adC (v, l ++ List.replicate (16 - n) 0)).length = 17 := by simp [adC, hll]; omega
  refine ⟨_, Loads.all b6 (by kernel_rfl) (by rw [h17]; kernel_rfl), ?_⟩
  conv => whnf
  refine vStore.all (cs := adC (v, l ++ List.replicate (16 - n) 0)) b43 (by rw [h17]; kernel_rfl) (by rw [h17]; kernel_rfl) (one_adC _) (fun w4 b7 ho4 _ => ?_)
  conv => whnf
  refine ⟨_, Loads.all b7 (by kernel_rfl) (by rw [h17]; kernel_rfl), ?_⟩
  conv => whnf
  exact ⟨rfl, hw3.nw ho4 (Nat.le_refl _)⟩
set_option maxRecDepth 100000 in
theorem icCut_does {w : World} {k : Int} {G : List Nat} {A : Option Addr} {n c : Nat} {l : List UInt8} (hl : Bs w G A n l) (hn : n ≤ 140737488355328) (hc : n ≤ c) (hcm : c ≤ 9223372036854775807) :
    Does Tryz.prog 230 [.slice A n c, .int .i64 k] w (fun r w' => Own w w' 5 1 ((l.take k.toNat).map u8) r) := by
  have hll := hl.len
  obtain ⟨m, hm⟩ : ∃ m : Nat, min (n : Int) (max k 0) = (m : Int) := ⟨(min (n : Int) (max k 0)).toNat, by omega⟩
  have hmn : m ≤ n := by omega
  have hcut : Bs w G (if c = 0 then A else A.map (·.add (0 * 1))) m (l.take k.toNat) := by
    have h1 := Bs.cut (lo := 0) (hi := m) (m := c) hl (Nat.zero_le _) (by omega) (by omega) (A' := if c = 0 then A else A.map (·.add (0 * 1))) rfl
    have e : (l.drop 0).take (m - 0) = l.take k.toNat := by
      rw [List.drop_zero, Nat.sub_zero, List.take_eq_take_iff]
      omega
    rw [e] at h1
    exact h1
  refine Does.enter (fn := Tryz.f230) (by kernel_rfl) rfl (by kernel_rfl) (by kernel_rfl) ?_
  conv => whnf
  refine ⟨0, m, c, rfl, hm, rfl, Nat.zero_le _, by omega, Nat.le_refl _, if c = 0 then A else A.map (·.add (0 * 1)), m, c, rfl, rfl, rfl, ?_⟩
  conv => whnf
  refine (cloneB_does hcut (by omega)).mono ?_
  rintro v w' ⟨X, nX, cX, FX, rfl, h1, h2, h3⟩
  conv => whnf
  exact ⟨X, nX, cX, FX, rfl, h1, h2, h3⟩
set_option maxRecDepth 100000 in
theorem icRefuse_does {w : World} {e : Int} : Does Tryz.prog 228 [.int .i64 e] w (fun v w' => v = .tuple ⟨[.agg ⟨pkC zeroP (none, 0) (none, 0)⟩, .int .i64 0, .int .i64 e]⟩ ∧ Only [] w w') := by
  have hA := Only.alloc (Only.refl [] w) (.cells ⟨pkC zeroP (none, 0) (none, 0)⟩ 56)
  have b2 := Blk.new w 56 ⟨pkC zeroP (none, 0) (none, 0)⟩
  refine Does.enter (fn := Tryz.f228) (by kernel_rfl) rfl (by kernel_rfl) (by kernel_rfl) ?_
  conv => whnf
  refine vStore.all (cs := pkC zeroP (none, 0) (none, 0)) b2 (by kernel_rfl) (by kernel_rfl) (one_pkC _ _ _) (fun wz bz hoZ _ => ?_)
  conv => whnf
  refine ⟨_, Loads.all bz (by kernel_rfl) (by kernel_rfl), ?_⟩
  conv => whnf
  exact ⟨rfl, hA.nw hoZ (Nat.le_refl _)⟩
def lookE (l : List UInt8) : Int :=
  if l.length < 20 then 20
  else if (l.getD 0 0).toNat / 16 ≠ 4 then 50
  else if headL l < 20 then 50
  else if l.length < headL l then 20
  else if wordL l 10 ≠ ofL (zeroed (l.take (headL l))) then 52
  else if wordL l 6 / 32768 = 1 then 50
  else if wordL l 2 < headL l then 50
  else if optsOk ((l.drop 20).take (headL l - 20)) = false then 40
  else 0
def lookP (l : List UInt8) : Pk :=
  ⟨4, (l.getD 1 0).toNat, 0, (4, (l.drop 12).take 4 ++ z12), (4, (l.drop 16).take 4 ++ z12), (l.getD 9 0).toNat, (l.getD 8 0).toNat, wordL l 4, decide (wordL l 6 / 16384 % 2 = 1), decide (wordL l 6 / 8192 % 2 = 1), false, wordL l 6 % 8192 * 8, (l.drop 20).take (headL l - 20), (l.drop (headL l)).take (wordL l 2 - headL l).toNat⟩
def lookR (w w' : World) (v : Value) (l : List UInt8) : Prop :=
  ∃ p n O D, v = .tuple ⟨[.agg ⟨pkC p O D⟩, .int .i64 n, .int .i64 (lookE l)]⟩ ∧ (lookE l = 0 → p = lookP l ∧ n = wordL l 2) ∧ (lookE l ≠ 0 → p = zeroP ∧ n = 0) ∧ Pks w' p O D w.heap.size ∧ Only [] w w'
theorem look_fail {w w' : World} {l : List UInt8} {e : Int} (he : lookE l = e) (hne : e ≠ 0) (ho : Only [] w w') : lookR w w' (.tuple ⟨[.agg ⟨pkC zeroP (none, 0) (none, 0)⟩, .int .i64 0, .int .i64 e]⟩) l := by
  subst he
  exact ⟨zeroP, 0, (none, 0), (none, 0), rfl, fun h => absurd h hne, fun _ => ⟨rfl, rfl⟩, zeroP_ok _ _, ho⟩
theorem bit_e {f d : Int} (h0 : 0 ≤ f) (h1 : f ≤ 65535) (hd : 0 < d) : (andI .u16 (f / d) 1 == 1) = decide (f / d % 2 = 1) := by
  have h2 : 0 ≤ f / d := Int.ediv_nonneg h0 (Int.le_of_lt hd)
  have h3 : f / d ≤ 65535 := Int.le_trans (Int.ediv_le_self d h0) h1
  have e := andI_mask .u16 (f / d) 1 h2 h3 (by decide)
  have e : andI .u16 (f / d) 1 = f / d % 2 := e
  rw [e]
  rfl
set_option maxHeartbeats 4000000 in
set_option maxRecDepth 100000 in
theorem look4_does {w : World} {G : List Nat} {A : Option Addr} {n c : Nat} {l : List UInt8} (h : Bs w G A n l) (hs : Shp w) (hn : n ≤ 140737488355328) (hc : n ≤ c) (hcm : c ≤ 9223372036854775807) :
    Does Tryz.prog 168 [.slice A n c] w (fun v w' => lookR w w' v l) := by
  have hl := h.len
  have hA := Only.alloc (Only.refl [] w) (.cells ⟨pkC zeroP (none, 0) (none, 0)⟩ 56)
  have b2 := Blk.new w 56 ⟨pkC zeroP (none, 0) (none, 0)⟩
  have hb := h.o hA
  have hs1 := hs.o hA
  refine Does.enter (fn := Tryz.f168) (by kernel_rfl) rfl (by kernel_rfl) (by kernel_rfl) ?_
  conv => whnf
  refine VIf.dec (fun h1 => ?_) (fun h1 => ?_)
  · have hE : lookE l = 20 := if_pos (by omega)
    conv => whnf
    refine icRefuse_does.mono ?_
    rintro r w1 ⟨rfl, ho1⟩
    conv => whnf
    refine vStore.all (cs := pkC zeroP (none, 0) (none, 0)) (b2.only ho1 (by simp)) (by kernel_rfl) (by kernel_rfl) (one_pkC _ _ _) (fun wz bz hoZ _ => ?_)
    conv => whnf
    refine ⟨_, Loads.all bz (by kernel_rfl) (by kernel_rfl), ?_⟩
    conv => whnf
    exact look_fail hE (by decide) ((hA.t0 ho1).nw hoZ (Nat.le_refl _))
  have g1 : ¬ l.length < 20 := by omega
  obtain ⟨b, off, rfl, -⟩ := hb.some_ (by omega)
  have hc0 := u8_le (l.getD 0 0)
  have eh : IntKind.i64.wrap (4 * IntKind.i64.wrap (((l.getD 0 0).toNat : Int).tmod 16)) = ((headL l : Nat) : Int) := by
    have e1 : IntKind.i64.wrap (((l.getD 0 0).toNat : Int).tmod 16) = (((l.getD 0 0).toNat % 16 : Nat) : Int) := by
      rw [Int.tmod_eq_emod_of_nonneg (by omega), wi64]
      omega
    rw [e1, wi64]
    unfold headL
    omega
  conv => whnf
  refine ⟨_, _, rfl, 0, off + 0, rfl, by omega, p1 _ _, ?_⟩
  conv => whnf
  refine ⟨_, Loads.one (by kernel_rfl) (hb.ld (getD_some (by omega))), ?_⟩
  conv => whnf
  rw [eh]
  refine ⟨_, _, rfl, 0, off + 0, rfl, by omega, p1 _ _, ?_⟩
  conv => whnf
  refine ⟨_, Loads.one (by kernel_rfl) (hb.ld (getD_some (by omega))), ?_⟩
  conv => whnf
  have eq0 : IntKind.u8.wrap (((l.getD 0 0).toNat : Int).tdiv 16) = (((l.getD 0 0).toNat / 16 : Nat) : Int) := by
    rw [Int.tdiv_eq_ediv_of_nonneg (by omega), wr8]
    omega
  rw [eq0]
  refine VIf.ne (fun h2 => ?_) (fun h2 => ?_)
  · have H : (l.getD 0 0).toNat / 16 ≠ 4 := by omega
    have hE : lookE l = 50 := by
        unfold lookE
        rw [if_neg g1, if_pos H]
    conv => whnf
    refine icRefuse_does.mono ?_
    rintro r wy ⟨rfl, hoy⟩
    conv => whnf
    refine vStore.all (cs := pkC zeroP (none, 0) (none, 0)) (b2.only hoy (by simp)) (by kernel_rfl) (by kernel_rfl) (one_pkC _ _ _) (fun wz bz hoZ _ => ?_)
    conv => whnf
    refine ⟨_, Loads.all bz (by kernel_rfl) (by kernel_rfl), ?_⟩
    conv => whnf
    exact look_fail hE (by decide) ((hA.t0 hoy).nw hoZ (Nat.le_refl _))
  have g2 : ¬ (l.getD 0 0).toNat / 16 ≠ 4 := by omega
  conv => whnf
  refine VIf.dec (fun h3 => ?_) (fun h3 => ?_)
  · have H : headL l < 20 := by omega
    have hE : lookE l = 50 := by
        unfold lookE
        rw [if_neg g1, if_neg g2, if_pos H]
    conv => whnf
    refine icRefuse_does.mono ?_
    rintro r wy ⟨rfl, hoy⟩
    conv => whnf
    refine vStore.all (cs := pkC zeroP (none, 0) (none, 0)) (b2.only hoy (by simp)) (by kernel_rfl) (by kernel_rfl) (one_pkC _ _ _) (fun wz bz hoZ _ => ?_)
    conv => whnf
    refine ⟨_, Loads.all bz (by kernel_rfl) (by kernel_rfl), ?_⟩
    conv => whnf
    exact look_fail hE (by decide) ((hA.t0 hoy).nw hoZ (Nat.le_refl _))
  have g3 : ¬ headL l < 20 := by omega
  conv => whnf
  refine VIf.dec (fun h4 => ?_) (fun h4 => ?_)
  · have h4 : ((headL l : Nat) : Int) > n := h4
    have H : l.length < headL l := by omega
    have hE : lookE l = 20 := by
        unfold lookE
        rw [if_neg g1, if_neg g2, if_neg g3, if_pos H]
    conv => whnf
    refine icRefuse_does.mono ?_
    rintro r wy ⟨rfl, hoy⟩
    conv => whnf
    refine vStore.all (cs := pkC zeroP (none, 0) (none, 0)) (b2.only hoy (by simp)) (by kernel_rfl) (by kernel_rfl) (one_pkC _ _ _) (fun wz bz hoZ _ => ?_)
    conv => whnf
    refine ⟨_, Loads.all bz (by kernel_rfl) (by kernel_rfl), ?_⟩
    conv => whnf
    exact look_fail hE (by decide) ((hA.t0 hoy).nw hoZ (Nat.le_refl _))
  have h4 : ¬ ((headL l : Nat) : Int) > n := h4
  have g4 : ¬ l.length < headL l := by omega
  clear h1 h2 h3 h4
  have hcut : Bs w G (if c = 0 then some ⟨b, off, none⟩ else (some ⟨b, off, none⟩ : Option Addr).map (·.add (0 * 1))) (headL l) (l.take (headL l)) := by
    have h1 := Bs.cut (lo := 0) (hi := headL l) (m := c) h (Nat.zero_le _) (by omega) (by omega) (A' := if c = 0 then some ⟨b, off, none⟩ else (some ⟨b, off, none⟩ : Option Addr).map (·.add (0 * 1))) rfl
    simpa using h1
  have hh60 : headL l ≤ 60 := by unfold headL; omega
  conv => whnf
  refine ⟨0, headL l, c, rfl, rfl, rfl, Nat.zero_le _, by omega, Nat.le_refl _, _, headL l, c, rfl, rfl, rfl, ?_⟩
  conv => whnf
  refine (cloneB_does (hcut.o hA) (by omega)).mono ?_
  rintro r w1 ⟨X, nX, cX, FX, rfl, hrX, ho1, hFX⟩
  have hnX : headL l = nX := by
    have := (Row.bs hrX).len
    rw [List.length_take] at this
    omega
  subst hnX
  obtain ⟨g, rfl, rfl, hf, ⟨u, hu⟩, hr1⟩ := hrX.put (i := 10) (v := u8 0) (by omega)
  obtain ⟨g', e, _, hf2, ⟨u2, hu2⟩, hr2⟩ := hr1.put (i := 11) (v := u8 0) (by omega)
  cases e
  have hg0 := hFX g (by simp)
  have ho2 : Only [g] w1 ((w1.setCell ⟨g, 10, none⟩ (u8 0)).setCell ⟨g, 11, none⟩ (u8 0)) := ((Only.refl _ w1).put (.inl (by simp))).put (.inl (by simp))
  have h02 := hA.t0 (ho1.nw ho2 hg0)
  have hz : (((l.take (headL l)).map u8).set 10 (u8 0)).set 11 (u8 0) = (zeroed (l.take (headL l))).map u8 := by
    unfold zeroed
    rw [List.map_set, List.map_set]
  rw [hz] at hr2
  have b22 := b2.only (ho1.nw ho2 hg0) (by simp)
  conv => whnf
  refine ⟨_, _, rfl, 10, 10, rfl, by omega, rfl, ?_⟩
  conv => whnf
  refine ⟨_, Stores.one (by kernel_rfl) rfl hu hf, ?_⟩
  conv => whnf
  refine ⟨_, _, rfl, 11, 11, rfl, by omega, rfl, ?_⟩
  conv => whnf
  refine ⟨_, Stores.one (by kernel_rfl) rfl hu2 hf2, ?_⟩
  conv => whnf
  refine (newR_does (h.o h02) hn).mono ?_
  rintro r w3 ⟨R, rfl, hR⟩
  obtain ⟨k, hk⟩ : ∃ k, headL l = k + 20 := ⟨headL l - 20, by omega⟩
  obtain ⟨c0, c1, c2, c3, c4, c5, c6, c7, c8, c9, c10, c11, c12, c13, c14, c15, c16, c17, c18, c19, t, hl20⟩ := ex20 (l := l) (by omega)
  have hO := hR.o
  have hl2 : t.length + 20 = n := by have := congrArg List.length hl20; simp at this; omega
  rw [hl20] at hR
  clear hu hu2 hf hf2 hr1 hrX
  conv => whnf
  refine (sU8_does hR).mono ?_
  rintro r w4 ⟨rfl, hR, h34⟩
  conv => whnf
  refine (sU8_does hR).mono ?_
  rintro r w5 ⟨rfl, hR, h45⟩
  conv => whnf
  rw [wi8 c1]
  refine vStore.fresh (cs := pkC ⟨4, c1.toNat, 0, (0, List.replicate 16 0), (0, List.replicate 16 0), 0, 0, 0, false, false, false, 0, [], []⟩ (none, 0) (none, 0)) (by kernel_rfl) (by kernel_rfl) (one_pkC _ _ _) (fun w6 b9 ho6 hz6 => ?_)
  have hR9 := hR.1.lt
  have hR := hR.t ho6
  obtain ⟨g9, hg9⟩ : ∃ g9, w5.heap.size = g9 := ⟨_, rfl⟩
  rw [hg9] at b9 hR9 ⊢
  have h39 := hO.size
  have h39 := Nat.le_trans h39 (show w3.heap.size ≤ g9 by have := h34.size; have := h45.size; omega)
  have hne : g9 ∉ [R] := by simp; omega
  have hz3 := hR.o.size
  have hf := wordL_bd l 6
  have ew : wordL l 6 = (c6.toNat : Int) * 256 + c7.toNat := by rw [hl20]; rfl
  conv => whnf
  refine (sU16_does hR).mono ?_
  rintro r w7 ⟨rfl, hR, hx⟩
  have b9 := b9.only hx hne
  have ew2 : wordL l 2 = (c2.toNat : Int) * 256 + c3.toNat := by rw [hl20]; rfl
  conv => whnf
  rw [w16i c2 c3]
  refine (sU16_does hR).mono ?_
  rintro r w8 ⟨rfl, hR, hx⟩
  have b9 := b9.only hx hne
  conv => whnf
  rw [w32 c4 c5]
  refine vStore.one b9 (by kernel_rfl) rfl (i := 39) (u := .int .u32 0) rfl (fun b9 hx => ?_)
  have hR := hR.far hx hR9
  conv => whnf
  refine (sU16_does hR).mono ?_
  rintro r w9 ⟨rfl, hR, hx⟩
  have b9 := b9.only hx hne
  rw [← ew]
  have off_l : IntKind.i64.wrap (IntKind.i64.wrap ((wordL l 6).tmod 8192) * 8) = wordL l 6 % 8192 * 8 := by rw [ew]; exact off_e c6 c7
  conv => whnf
  rw [bit_e hf.1 hf.2 (pw_pos _ _)]
  refine vStore.one b9 (by kernel_rfl) rfl (i := 40) (u := .bool false) rfl (fun b9 hx => ?_)
  have hR := hR.far hx hR9
  conv => whnf
  rw [bit_e hf.1 hf.2 (pw_pos _ _)]
  refine vStore.one b9 (by kernel_rfl) rfl (i := 41) (u := .bool false) rfl (fun b9 hx => ?_)
  have hR := hR.far hx hR9
  conv => whnf
  rw [off_l]
  refine vStore.one b9 (by kernel_rfl) rfl (i := 43) (u := .int .i64 0) rfl (fun b9 hx => ?_)
  have hR := hR.far hx hR9
  conv => whnf
  refine (sU8_does hR).mono ?_
  rintro r w10 ⟨rfl, hR, hx⟩
  have b9 := b9.only hx hne
  conv => whnf
  refine (sU8_does hR).mono ?_
  rintro r w11 ⟨rfl, hR, hx⟩
  have b9 := b9.only hx hne
  conv => whnf
  rw [wi8 c8]
  refine vStore.one b9 (by kernel_rfl) rfl (i := 38) (u := .int .i64 0) rfl (fun b9 hx => ?_)
  have hR := hR.far hx hR9
  conv => whnf
  rw [wi8 c9]
  refine vStore.one b9 (by kernel_rfl) rfl (i := 37) (u := .int .i64 0) rfl (fun b9 hx => ?_)
  have hR := hR.far hx hR9
  conv => whnf
  refine (sU16_does hR).mono ?_
  rintro r w12 ⟨rfl, hR, hx⟩
  have b9 := b9.only hx hne
  conv => whnf
  refine (sBytes_does (k := 4) hR (by simp) (by simp; omega)).mono ?_
  rintro r w13 ⟨X, cX, GX, rfl, -, -, hX, hR, hx, -⟩
  have b9 := b9.only hx hne
  have hR : RdS _ w13 R (c16 :: c17 :: c18 :: c19 :: t) := hR
  have hX : Bs w13 GX X 4 [c12, c13, c14, c15] := hX
  conv => whnf
  refine (icAddr_does (v := 4) hX (by decide) (by decide)).mono ?_
  rintro r w14 ⟨rfl, hx⟩
  have b9 := b9.only hx (by simp)
  have hR := hR.t hx
  conv => whnf
  refine vStore.blk b9 (by kernel_rfl) (o := 3) (cs := adC (4, [c12, c13, c14, c15] ++ List.replicate 12 0)) (Nat.le_of_ble_eq_true rfl) (one_adC _) (fun w13s b9 hx _ => ?_)
  have hR := hR.far hx hR9
  conv => whnf
  refine (sBytes_does (k := 4) hR (by simp) (by simp; omega)).mono ?_
  rintro r w15 ⟨X, cX, GX, rfl, -, -, hX, hR, hx, -⟩
  have b9 := b9.only hx hne
  have hR : RdS _ w15 R (t) := hR
  have hX : Bs w15 GX X 4 [c16, c17, c18, c19] := hX
  conv => whnf
  refine (icAddr_does (v := 4) hX (by decide) (by decide)).mono ?_
  rintro r w16 ⟨rfl, hx⟩
  have b9 := b9.only hx (by simp)
  have hR := hR.t hx
  conv => whnf
  refine vStore.blk b9 (by kernel_rfl) (o := 20) (cs := adC (4, [c16, c17, c18, c19] ++ List.replicate 12 0)) (Nat.le_of_ble_eq_true rfl) (one_adC _) (fun w15s b9 hx _ => ?_)
  have hR := hR.far hx hR9
  have ek : IntKind.i64.wrap (((headL l : Nat) : Int) - 20) = ((k : Nat) : Int) := by rw [wi64]; omega
  conv => whnf
  rw [ek]
  have h9b := b9.lt
  refine (sBytes_does (k := k) hR (by omega) (by omega)).mono ?_
  rintro r w17 ⟨XO, cO, GO, rfl, hOc, hOm, hO17, hR, hx, hGO⟩
  have b9 := b9.only hx hne
  conv => whnf
  refine vStore.one b9 (by kernel_rfl) rfl (i := 44) (u := .slice none 0 0) rfl (fun b9 hx => ?_)
  have hR := hR.far hx hR9
  have h9lt := b9.lt
  have hOX : ∀ j ∈ GO, g9 < j := fun j hj => by have := (hGO j hj).2.1; omega
  have hbase := ho1.nw ho2 hg0
  have h18 := hbase.t0 hR.o
  have ew10 : wordL l 10 = (c10.toNat : Int) * 256 + c11.toNat := by rw [hl20]; rfl
  have hOf := ofL_bd (zeroed (l.take (headL l)))
  conv => whnf
  refine (of_does ((Row.bs hr2).o hR.o) (by have := hr2.le; omega) (by omega)).mono ?_
  rintro r w19 ⟨rfl, h1819⟩
  have h19 := h18.t0 h1819
  rw [← ew10]
  conv => whnf
  refine VIf.ne (fun h5 => ?_) (fun h5 => ?_)
  · have H : wordL l 10 ≠ ofL (zeroed (l.take (headL l))) := h5
    have hE : lookE l = 52 := by
      unfold lookE
      rw [if_neg g1, if_neg g2, if_neg g3, if_neg g4, if_pos H]
    conv => whnf
    refine icRefuse_does.mono ?_
    rintro r wy ⟨rfl, hoy⟩
    conv => whnf
    refine vStore.all (cs := pkC zeroP (none, 0) (none, 0)) (b2.only (h19.t0 hoy) (by simp)) (by kernel_rfl) (by kernel_rfl) (one_pkC _ _ _) (fun wz bz hoZ _ => ?_)
    conv => whnf
    refine ⟨_, Loads.all bz (by kernel_rfl) (by kernel_rfl), ?_⟩
    conv => whnf
    exact look_fail hE (by decide) ((hA.t0 (h19.t0 hoy)).nw hoZ (Nat.le_refl _))
  have g5 : ¬ wordL l 10 ≠ ofL (zeroed (l.take (headL l))) := fun h => h h5
  have b91 := b9.only h1819 (by simp)
  conv => whnf
  refine VIf.eq (fun h6 => ?_) (fun h6 => ?_)
  · have H : wordL l 6 / 32768 = 1 := h6
    have hE : lookE l = 50 := by
      unfold lookE
      rw [if_neg g1, if_neg g2, if_neg g3, if_neg g4, if_neg g5, if_pos H]
    conv => whnf
    refine icRefuse_does.mono ?_
    rintro r wy ⟨rfl, hoy⟩
    conv => whnf
    refine vStore.all (cs := pkC zeroP (none, 0) (none, 0)) (b2.only (h19.t0 hoy) (by simp)) (by kernel_rfl) (by kernel_rfl) (one_pkC _ _ _) (fun wz bz hoZ _ => ?_)
    conv => whnf
    refine ⟨_, Loads.all bz (by kernel_rfl) (by kernel_rfl), ?_⟩
    conv => whnf
    exact look_fail hE (by decide) ((hA.t0 (h19.t0 hoy)).nw hoZ (Nat.le_refl _))
  have g6 : ¬ wordL l 6 / 32768 = 1 := h6
  conv => whnf
  rw [← ew2]
  refine VIf.dec (fun h7 => ?_) (fun h7 => ?_)
  · have H : wordL l 2 < headL l := h7
    have hE : lookE l = 50 := by
      unfold lookE
      rw [if_neg g1, if_neg g2, if_neg g3, if_neg g4, if_neg g5, if_neg g6, if_pos H]
    conv => whnf
    refine icRefuse_does.mono ?_
    rintro r wy ⟨rfl, hoy⟩
    conv => whnf
    refine vStore.all (cs := pkC zeroP (none, 0) (none, 0)) (b2.only (h19.t0 hoy) (by simp)) (by kernel_rfl) (by kernel_rfl) (one_pkC _ _ _) (fun wz bz hoZ _ => ?_)
    conv => whnf
    refine ⟨_, Loads.all bz (by kernel_rfl) (by kernel_rfl), ?_⟩
    conv => whnf
    exact look_fail hE (by decide) ((hA.t0 (h19.t0 hoy)).nw hoZ (Nat.le_refl _))
  have g7 : ¬ wordL l 2 < headL l := h7
  have h21 : Only [] _ w19 := h1819
  have hopts : (l.drop 20).take (headL l - 20) = t.take k := by rw [hk, Nat.add_sub_cancel, hl20]; rfl
  have hO19 : Bs w19 GO XO k (t.take k) := (Bs.only hO17 hx (fun j hj hm => by
    have h1 := hOX j hj
    have h2 : j = g9 := by simpa using hm
    omega)).o h1819
  have hs19 := hs.o (hA.t0 h19)
  conv => whnf
  refine ⟨_, Loads.one (by kernel_rfl) (b91.at (i := 44) rfl), ?_⟩
  conv => whnf
  refine (optsValid_does hO19 hs19 hOc hOm).mono ?_
  rintro r w20 ⟨rfl, h1920⟩
  have h20 := h19.t0 h1920
  conv => whnf
  refine VIf.not (VIf.of (b := optsOk (t.take k)) (fun h8 => ?_) (fun h8 => ?_))
  rotate_left
  · have H : optsOk ((l.drop 20).take (headL l - 20)) = false := by rw [hopts]; exact h8
    have hE : lookE l = 40 := by
      unfold lookE
      rw [if_neg g1, if_neg g2, if_neg g3, if_neg g4, if_neg g5, if_neg g6, if_neg g7, if_pos H]
    conv => whnf
    refine icRefuse_does.mono ?_
    rintro r wy ⟨rfl, hoy⟩
    conv => whnf
    refine vStore.all (cs := pkC zeroP (none, 0) (none, 0)) (b2.only (h20.t0 hoy) (by simp)) (by kernel_rfl) (by kernel_rfl) (one_pkC _ _ _) (fun wz bz hoZ _ => ?_)
    conv => whnf
    refine ⟨_, Loads.all bz (by kernel_rfl) (by kernel_rfl), ?_⟩
    conv => whnf
    exact look_fail hE (by decide) ((hA.t0 (h20.t0 hoy)).nw hoZ (Nat.le_refl _))
  have g8 : ¬ optsOk ((l.drop 20).take (headL l - 20)) = false := by rw [hopts, h8]; decide
  have hE : lookE l = 0 := by
    unfold lookE
    rw [if_neg g1, if_neg g2, if_neg g3, if_neg g4, if_neg g5, if_neg g6, if_neg g7, if_neg g8]
  have hw2b := wordL_bd l 2
  have eT : IntKind.i64.wrap (wordL l 2 - ((headL l : Nat) : Int)) = wordL l 2 - ((headL l : Nat) : Int) := wi_id (by omega) (by omega)
  have hcut2 := Bs.cut (lo := headL l) (hi := n) (m := c) h (by omega) (by omega) (by omega) (A' := if c = headL l then some ⟨b, off, none⟩ else (some ⟨b, off, none⟩ : Option Addr).map (·.add (headL l * 1))) rfl
  have hcut2 : Bs w G (if c = headL l then some ⟨b, off, none⟩ else (some ⟨b, off, none⟩ : Option Addr).map (·.add (headL l * 1))) (n - headL l) (l.drop (headL l)) := by
    have e : (l.drop (headL l)).take (n - headL l) = l.drop (headL l) := List.take_of_length_le (by rw [List.length_drop]; omega)
    rw [e] at hcut2
    exact hcut2
  have hw20 := hA.t0 h20
  conv => whnf
  refine ⟨headL l, n, c, rfl, rfl, rfl, by omega, by omega, Nat.le_refl _, _, n - headL l, c - headL l, rfl, rfl, rfl, ?_⟩
  conv => whnf
  rw [eT]
  refine (icCut_does (hcut2.o hw20) (by omega) (by omega) (by omega)).mono ?_
  rintro r w21 ⟨XD, nD, cD, GD, rfl, hrD, h2021, hGD⟩
  have hnD := (Row.bs hrD).len
  have h29 := b91.only h1920 (by simp)
  have h29 := h29.only h2021 (by simp)
  conv => whnf
  refine vStore.one h29 (by kernel_rfl) rfl (i := 45) (u := .slice none 0 0) rfl (fun b92 hx2 => ?_)
  have lk : (t.take k).length = k := by rw [List.length_take]; omega
  have lD : ((l.drop (headL l)).take (wordL l 2 - ((headL l : Nat) : Int)).toNat).length = nD := hnD
  have hPl : lookP l = ⟨4, (c1.toNat : Int), 0, (4, [c12, c13, c14, c15] ++ List.replicate 12 0), (4, [c16, c17, c18, c19] ++ List.replicate 12 0), (c9.toNat : Int), (c8.toNat : Int), (c4.toNat : Int) * 256 + c5.toNat, decide (wordL l 6 / 16384 % 2 = 1), decide (wordL l 6 / 8192 % 2 = 1), false, wordL l 6 % 8192 * 8, t.take k, (l.drop (headL l)).take (wordL l 2 - ((headL l : Nat) : Int)).toNat⟩ := by
    unfold lookP
    rw [hopts]
    have q1 : (l.getD 1 0).toNat = c1.toNat := by rw [hl20]; rfl
    have q2 : (l.drop 12).take 4 = [c12, c13, c14, c15] := by rw [hl20]; rfl
    have q3 : (l.drop 16).take 4 = [c16, c17, c18, c19] := by rw [hl20]; rfl
    have q4 : (l.getD 9 0).toNat = c9.toNat := by rw [hl20]; rfl
    have q5 : (l.getD 8 0).toNat = c8.toNat := by rw [hl20]; rfl
    have q6 : wordL l 4 = (c4.toNat : Int) * 256 + c5.toNat := by rw [hl20]; rfl
    rw [q1, q2, q3, q4, q5, q6]
    rfl
  have b93 : Blk (w21.setCell ⟨g9, 45, none⟩ (.slice XD nD cD)) g9 56 ⟨pkC (lookP l) (XO, cO) (XD, cD)⟩ := by
    rw [hPl]
    unfold pkC pkT
    dsimp only
    rw [lk, lD]
    exact b92
  have okP : okPk (lookP l) := by
    rw [hPl]
    refine ⟨okAd4 rfl, okAd4 rfl, ?_⟩
    show -9223372036854775808 ≤ wordL l 6 % 8192 * 8 ∧ wordL l 6 % 8192 * 8 ≤ 9223372036854775807
    omega
  have hlp := pk_len (O := (XO, cO)) (D := (XD, cD)) okP
  have h0g : w.heap.size ≤ g9 := by have := h02.size; omega
  have hfin := (h20.t0 h2021).trans hx2 (fun j hj => .inr (by
    obtain rfl : j = g9 := by simpa using hj
    have := hA.size
    have := hbase.size
    omega))
  conv => whnf
  refine ⟨_, Loads.all b93 (by kernel_rfl) (by rw [hlp]; kernel_rfl), ?_⟩
  conv => whnf
  refine vStore.all (cs := pkC (lookP l) (XO, cO) (XD, cD)) (b2.only hfin (by simp)) (by rw [hlp]; kernel_rfl) (by rw [hlp]; kernel_rfl) (one_pkC _ _ _) (fun wz bz hoz _ => ?_)
  conv => whnf
  refine ⟨_, Loads.all bz (by kernel_rfl) (by rw [hlp]; kernel_rfl), ?_⟩
  conv => whnf
  have hend : Only [] w wz := (hA.t0 hfin).nw hoz (Nat.le_refl _)
  have hw9 : w.heap.size < g9 := by
    have h1 := World.size_alloc w (.cells ⟨pkC zeroP (none, 0) (none, 0)⟩ 56)
    have h2 := hbase.size
    omega
  have hz19 := h1819.size
  have hz20 := h1920.size
  have hleD := hrD.le
  refine ⟨lookP l, wordL l 2, (XO, cO), (XD, cD), by rw [hE], fun _ => ⟨rfl, rfl⟩, fun h => absurd hE h, ⟨okP, ?_, ?_, ?_, ?_, ?_, ?_⟩, hend⟩
  · rw [hPl]
    refine ⟨GO, ?_, fun j hj => by have := hOX j hj; omega⟩
    show Bs wz GO XO (t.take k).length (t.take k)
    rw [lk]
    exact ((((hO19.o h1920).o h2021).only hx2 (fun j hj hm => by
      have h1 := hOX j hj
      have h2 : j = g9 := by simpa using hm
      omega)).only hoz (fun j hj hm => by
      have h1 := hOX j hj
      have h2 : j = w.heap.size := by simpa using hm
      omega))
  · rw [hPl]
    refine ⟨GD, ?_, fun j hj => by have := hGD j hj; omega⟩
    show Bs wz GD XD ((l.drop (headL l)).take (wordL l 2 - ((headL l : Nat) : Int)).toNat).length _
    rw [lD]
    exact ((Row.bs hrD).only hx2 (fun j hj hm => by
      have h1 := hGD j hj
      have h2 : j = g9 := by simpa using hm
      omega)).only hoz (fun j hj hm => by
      have h1 := hGD j hj
      have h2 : j = w.heap.size := by simpa using hm
      omega)
  · rw [hPl]
    show (t.take k).length ≤ cO ∧ cO ≤ _
    rw [lk]
    exact ⟨hOc, hOm⟩
  · rw [hPl]
    show ((l.drop (headL l)).take (wordL l 2 - ((headL l : Nat) : Int)).toNat).length ≤ cD ∧ cD ≤ _
    rw [lD]
    exact ⟨hleD.1, by have := hleD.2; unfold maxLen at this; exact this⟩
  · rw [hPl]
    show (t.take k).length ≤ _
    rw [lk]
    omega
  · rw [hPl]
    show ((l.drop (headL l)).take (wordL l 2 - ((headL l : Nat) : Int)).toNat).length ≤ _
    rw [List.length_take, List.length_drop]
    omega
end Go.Proofs.YtofomopdaponbaaGreatDoor
/-
  icmp: the errors about a packet of version 4 (about, TooBig, NoPort, NoRoute, TimeUp, LateParts), Look of a message of version 4.
-/
namespace Go.Proofs.YtofomopdaponbaaGreatDoor
open Go.RowKit
set_option linter.unusedVariables false
set_option linter.unusedSimpArgs false

/-- The package's table of types and codes. -/
def signL : List Int := [3, 4, 2, 0, 3, 3, 1, 4, 3, 0, 1, 0, 11, 0, 3, 0, 11, 1, 3, 1]
def Sgn (w : World) : Prop := ∀ (i : Nat) z, signL[i]? = some z → w.cell? ⟨0, i, none⟩ = some (.int .i64 z)
theorem Sgn.o {w w' : World} (h : Sgn w) (ho : Only [] w w') : Sgn w' := fun i z hz => ho.cell (h i z hz) (by simp)
def typK (k : Nat) : Int := signL.getD (k * 4) 0
def codeK (k : Nat) : Int := signL.getD (k * 4 + 1) 0
def aboutM (k : Nat) (l : List UInt8) (rest : Int) : Mg := ⟨4, typK k, codeK k, rest, l.take (min (l.length : Int) (headP (parseP l) + 8)).toNat⟩
/-- A message that was told of, and where its body lies. -/
def Tells (w w' : World) (v : Value) (m : Mg) : Prop := ∃ D G, v = .tuple ⟨[.agg ⟨mgC m D⟩, .int .i64 0]⟩ ∧ Bs w' G D.1 m.body.length m.body ∧ (∀ j ∈ G, w.heap.size ≤ j ∧ j < w'.heap.size) ∧ m.body.length ≤ D.2 ∧ D.2 ≤ 9223372036854775807 ∧ Only [] w w'
theorem sign_at {w : World} {k j : Nat} (h : Sgn w) (hk : k ≤ 4) (hj : j < 4) : w.cell? ⟨0, k * 4 + j, none⟩ = some (.int .i64 (signL.getD (k * 4 + j) 0)) := by
  refine h _ _ ?_
  have hl : signL.length = 20 := rfl
  rw [List.getD_eq_getElem?_getD, List.getElem?_eq_getElem (by omega)]
  rfl
theorem sign_load {w : World} {k : Nat} (h : Sgn w) (hk : k ≤ 4) : Loads Tryz.prog 263 ⟨0, k * 4, none⟩ w (.agg ⟨[.int .i64 (typK k), .int .i64 (codeK k)]⟩) :=
  Loads.many (by kernel_rfl) (by kernel_rfl) (fun j u hu => by
    match j, hu with
    | 0, hu => obtain rfl := Option.some.inj hu; exact sign_at h hk (by decide)
    | 1, hu => obtain rfl := Option.some.inj hu; exact sign_at h hk (by decide)
    | j + 2, hu => cases hu)
set_option maxHeartbeats 1000000 in
set_option maxRecDepth 100000 in
theorem about_does {w : World} {k : Nat} {rest : Int} {G : List Nat} {A : Option Addr} {n c : Nat} {l : List UInt8} (h : Bs w G A n l) (hs : Shp w) (hg : Sgn w) (hk : k ≤ 4) (he : parseE l = 0) (hn : n ≤ 140737488355328) (hc : n ≤ c) (hcm : c ≤ 9223372036854775807) :
    Does Tryz.prog 162 [.int .i64 k, .slice A n c, .int .u32 rest] w (fun v w' => Tells w w' v (aboutM k l rest)) := by
  have hl := h.len
  have hA := Only.alloc (Only.refl [] w) (.cells ⟨mgC zeroM (none, 0)⟩ 93)
  have b6 := Blk.new w 93 ⟨mgC zeroM (none, 0)⟩
  have hz0 := World.size_alloc w (.cells ⟨mgC zeroM (none, 0)⟩ 93)
  refine Does.enter (fn := Tryz.f162) (by kernel_rfl) rfl (by kernel_rfl) (by kernel_rfl) ?_
  conv => whnf
  refine (parse_does (h.o hA) (hs.o hA) hn hc hcm).mono ?_
  rintro v w1 ⟨O, D, rfl, hp, ho1⟩
  have hok := hp.ok
  have hlp := pk_len (O := O) (D := D) hok
  conv => whnf
  refine vStore.fresh (cs := pkC (parseP l) O D) (by rw [hlp]; kernel_rfl) (by rw [hlp]; kernel_rfl) (one_pkC _ _ _) (fun w2 b8 ho2 hz2 => ?_)
  rw [he]
  have hw2 := (hA.t0 ho1).t0 ho2
  have hr : rightP (parseP l) = true ∨ True := .inr trivial
  have hh : headP (parseP l) = headP (parseP l) := rfl
  obtain ⟨H, hH⟩ : ∃ H, headP (parseP l) = H := ⟨_, rfl⟩
  have hH0 : 0 ≤ H ∧ H ≤ 140737488355400 := by
    rw [← hH]
    unfold headP
    have := hp.ol
    split <;> omega
  have e8 : IntKind.i64.wrap (H + 8) = H + 8 := wi_id (by omega) (by omega)
  obtain ⟨m, hm⟩ : ∃ m : Nat, min (n : Int) (H + 8) = (m : Int) := ⟨(min (n : Int) (H + 8)).toNat, by omega⟩
  have hmn : m ≤ n := by omega
  have hbody : l.take (min (l.length : Int) (headP (parseP l) + 8)).toNat = l.take m := by rw [hl, hH, hm]; rfl
  have hcut : Bs w G (if c = 0 then A else A.map (·.add (0 * 1))) m (l.take m) := by
    have h1 := Bs.cut (lo := 0) (hi := m) (m := c) h (Nat.zero_le _) (by omega) (by omega) (A' := if c = 0 then A else A.map (·.add (0 * 1))) rfl
    simpa using h1
  conv => whnf
  refine ⟨k, k * 4, rfl, by omega, by rw [Nat.zero_add]; rfl, ?_⟩
  conv => whnf
  refine ⟨0, k * 4, rfl, by decide, rfl, ?_⟩
  conv => whnf
  refine ⟨_, sign_load (hg.o hw2) hk, ?_⟩
  conv => whnf
  refine vStore.fresh (cs := [.int .i64 (typK k), .int .i64 (codeK k)]) (by kernel_rfl) (by kernel_rfl) (one_cons rfl (one_cons rfl one_nil)) (fun w3 b10 ho3 hz3 => ?_)
  have hw3 := hw2.t0 ho3
  have b83 := b8.only ho3 (by simp)
  conv => whnf
  refine ⟨_, Loads.all b83 (by kernel_rfl) (by rw [hlp]; kernel_rfl), ?_⟩
  conv => whnf
  refine (head_does ((hp.o ho2).o ho3) (hs.o hw3)).mono ?_
  rintro v w4 ⟨rfl, ho4⟩
  have hw4 := hw3.t0 ho4
  rw [hH]
  have b104 := b10.only ho4 (by simp)
  conv => whnf
  rw [e8]
  refine VDraw.abs fun N hN => ?_
  refine VDraw.ahead 10 (fun _ => True) (fun w' => Only [] w4 w') [0, 1, 2, 3, 4, 5, 6, 7, 8, 9, 10, 11] (by kernel_rfl) (by kernel_rfl) trivial (Only.refl [] w4).drew ?_
  conv => whnf
  refine ⟨_, fun w' hw' => Loads.one (by kernel_rfl) ((b104.only hw'.2 (by simp)).at (i := 0) rfl), ?_⟩
  conv => whnf
  refine ⟨_, fun w' hw' => Loads.one (by kernel_rfl) ((b104.only hw'.2 (by simp)).at (i := 1) rfl), ?_⟩
  conv => whnf
  refine ⟨0, m, c, rfl, hm, rfl, Nat.zero_le _, by omega, Nat.le_refl _, _, m, c, rfl, rfl, rfl, ?_⟩
  conv => whnf
  refine (cloneB_does (hcut.o (hw4.drew)) (by omega)).mono ?_
  rintro v w5 ⟨X, nX, cX, FX, rfl, hrX, ho5, hFX⟩
  obtain rfl := (Row.bs hrX).len
  have h45 : Only [] w4 w5 := (Only.refl [] w4).drew.t0 ho5
  refine ⟨⟨trivial, fun _ => h45⟩, ?_⟩
  have hleX := hrX.le
  conv => whnf
  refine vStore.all (cs := mgC ⟨4, typK k, codeK k, rest, l.take m⟩ (X, cX)) (b6.only (((ho1.t0 ho2).t0 ho3).t0 (ho4.t0 h45)) (by simp)) (by kernel_rfl) (by kernel_rfl) (one_mgC _ _) (fun wz bz hoz hzz => ?_)
  refine ⟨⟨trivial, fun h => Bool.noConfusion h⟩, ?_⟩
  conv => whnf
  refine hN _ _ ?_
  conv => whnf
  refine ⟨_, Loads.all bz (by kernel_rfl) (by kernel_rfl), ?_⟩
  conv => whnf
  have hz5 := hw4.size
  unfold aboutM
  rw [hbody]
  refine ⟨(X, cX), FX, rfl, (Row.bs hrX).only hoz (fun j hj hm => ?_), fun j hj => ?_, hleX.1, by have := hleX.2; unfold maxLen at this; exact this, (hw4.t0 h45).nw hoz (Nat.le_refl _)⟩
  · have h1 : w4.heap.size ≤ j := hFX j hj
    have h2 : j = w.heap.size := by simpa using hm
    have h3 := ho1.size
    have h4 := ho2.size
    have h5 := ho3.size
    have h6 := ho4.size
    omega
  · have h1 : w4.heap.size ≤ j := hFX j hj
    have h2 := hrX.lt j hj
    have h3 := hoz.size
    omega
/-- What a callee told is stored as one's own result. -/
theorem Tells.up {w w1 w' wz : World} {v : Value} {m : Mg} {D : At} {G : List Nat} {g : Nat} (hA : Only [] w w1) (h : Bs w' G D.1 m.body.length m.body) (hG : ∀ j ∈ G, w1.heap.size ≤ j ∧ j < w'.heap.size) (hc : m.body.length ≤ D.2 ∧ D.2 ≤ 9223372036854775807) (ho : Only [] w1 w') (hg : w.heap.size ≤ g) (hg1 : g < w1.heap.size) (hz : Only [g] w' wz) (hv : v = .tuple ⟨[.agg ⟨mgC m D⟩, .int .i64 0]⟩) : Tells w wz v m := by
  refine ⟨D, G, hv, Bs.only h hz (fun j hj hm => ?_), fun j hj => ?_, hc.1, hc.2, (hA.t0 ho).nw hz hg⟩
  · have h1 := (hG j hj).1
    have h2 : j = g := by simpa using hm
    omega
  · have h1 := hG j hj
    have h2 := hA.size
    have h3 := hz.size
    omega
set_option maxRecDepth 100000 in
theorem noPort_does {w : World} {G : List Nat} {A : Option Addr} {n c : Nat} {l : List UInt8} (h : Bs w G A n l) (hs : Shp w) (hg : Sgn w) (he : parseE l = 0) (hn : n ≤ 140737488355328) (hc : n ≤ c) (hcm : c ≤ 9223372036854775807) :
    Does Tryz.prog 95 [.slice A n c] w (fun v w' => Tells w w' v (aboutM 1 l 0)) := by
  have hA := Only.alloc (Only.refl [] w) (.cells ⟨mgC zeroM (none, 0)⟩ 93)
  have b4 := Blk.new w 93 ⟨mgC zeroM (none, 0)⟩
  refine Does.enter (fn := Tryz.f95) (by kernel_rfl) rfl (by kernel_rfl) (by kernel_rfl) ?_
  conv => whnf
  refine (about_does (k := 1) (h.o hA) (hs.o hA) (hg.o hA) (by decide) he hn hc hcm).mono ?_
  rintro v w1 ⟨D, G1, rfl, hB, hG, hc1, hc2, ho⟩
  conv => whnf
  refine vStore.all (cs := mgC (aboutM 1 l 0) D) (b4.only ho (by simp)) (by kernel_rfl) (by kernel_rfl) (one_mgC _ _) (fun wz bz hoz _ => ?_)
  conv => whnf
  refine ⟨_, Loads.all bz (by kernel_rfl) (by kernel_rfl), ?_⟩
  conv => whnf
  exact Tells.up hA hB hG ⟨hc1, hc2⟩ ho (Nat.le_refl _) b4.lt hoz rfl
set_option maxRecDepth 100000 in
theorem noRoute_does {w : World} {G : List Nat} {A : Option Addr} {n c : Nat} {l : List UInt8} (h : Bs w G A n l) (hs : Shp w) (hg : Sgn w) (he : parseE l = 0) (hn : n ≤ 140737488355328) (hc : n ≤ c) (hcm : c ≤ 9223372036854775807) :
    Does Tryz.prog 96 [.slice A n c] w (fun v w' => Tells w w' v (aboutM 2 l 0)) := by
  have hA := Only.alloc (Only.refl [] w) (.cells ⟨mgC zeroM (none, 0)⟩ 93)
  have b4 := Blk.new w 93 ⟨mgC zeroM (none, 0)⟩
  refine Does.enter (fn := Tryz.f96) (by kernel_rfl) rfl (by kernel_rfl) (by kernel_rfl) ?_
  conv => whnf
  refine (about_does (k := 2) (h.o hA) (hs.o hA) (hg.o hA) (by decide) he hn hc hcm).mono ?_
  rintro v w1 ⟨D, G1, rfl, hB, hG, hc1, hc2, ho⟩
  conv => whnf
  refine vStore.all (cs := mgC (aboutM 2 l 0) D) (b4.only ho (by simp)) (by kernel_rfl) (by kernel_rfl) (one_mgC _ _) (fun wz bz hoz _ => ?_)
  conv => whnf
  refine ⟨_, Loads.all bz (by kernel_rfl) (by kernel_rfl), ?_⟩
  conv => whnf
  exact Tells.up hA hB hG ⟨hc1, hc2⟩ ho (Nat.le_refl _) b4.lt hoz rfl
set_option maxRecDepth 100000 in
theorem timeUp_does {w : World} {G : List Nat} {A : Option Addr} {n c : Nat} {l : List UInt8} (h : Bs w G A n l) (hs : Shp w) (hg : Sgn w) (he : parseE l = 0) (hn : n ≤ 140737488355328) (hc : n ≤ c) (hcm : c ≤ 9223372036854775807) :
    Does Tryz.prog 97 [.slice A n c] w (fun v w' => Tells w w' v (aboutM 3 l 0)) := by
  have hA := Only.alloc (Only.refl [] w) (.cells ⟨mgC zeroM (none, 0)⟩ 93)
  have b4 := Blk.new w 93 ⟨mgC zeroM (none, 0)⟩
  refine Does.enter (fn := Tryz.f97) (by kernel_rfl) rfl (by kernel_rfl) (by kernel_rfl) ?_
  conv => whnf
  refine (about_does (k := 3) (h.o hA) (hs.o hA) (hg.o hA) (by decide) he hn hc hcm).mono ?_
  rintro v w1 ⟨D, G1, rfl, hB, hG, hc1, hc2, ho⟩
  conv => whnf
  refine vStore.all (cs := mgC (aboutM 3 l 0) D) (b4.only ho (by simp)) (by kernel_rfl) (by kernel_rfl) (one_mgC _ _) (fun wz bz hoz _ => ?_)
  conv => whnf
  refine ⟨_, Loads.all bz (by kernel_rfl) (by kernel_rfl), ?_⟩
  conv => whnf
  exact Tells.up hA hB hG ⟨hc1, hc2⟩ ho (Nat.le_refl _) b4.lt hoz rfl
set_option maxRecDepth 100000 in
theorem lateParts_does {w : World} {G : List Nat} {A : Option Addr} {n c : Nat} {l : List UInt8} (h : Bs w G A n l) (hs : Shp w) (hg : Sgn w) (he : parseE l = 0) (hn : n ≤ 140737488355328) (hc : n ≤ c) (hcm : c ≤ 9223372036854775807) :
    Does Tryz.prog 98 [.slice A n c] w (fun v w' => Tells w w' v (aboutM 4 l 0)) := by
  have hA := Only.alloc (Only.refl [] w) (.cells ⟨mgC zeroM (none, 0)⟩ 93)
  have b4 := Blk.new w 93 ⟨mgC zeroM (none, 0)⟩
  refine Does.enter (fn := Tryz.f98) (by kernel_rfl) rfl (by kernel_rfl) (by kernel_rfl) ?_
  conv => whnf
  refine (about_does (k := 4) (h.o hA) (hs.o hA) (hg.o hA) (by decide) he hn hc hcm).mono ?_
  rintro v w1 ⟨D, G1, rfl, hB, hG, hc1, hc2, ho⟩
  conv => whnf
  refine vStore.all (cs := mgC (aboutM 4 l 0) D) (b4.only ho (by simp)) (by kernel_rfl) (by kernel_rfl) (one_mgC _ _) (fun wz bz hoz _ => ?_)
  conv => whnf
  refine ⟨_, Loads.all bz (by kernel_rfl) (by kernel_rfl), ?_⟩
  conv => whnf
  exact Tells.up hA hB hG ⟨hc1, hc2⟩ ho (Nat.le_refl _) b4.lt hoz rfl
set_option maxRecDepth 100000 in
theorem tooBig_does {w : World} {mtu : Int} {G : List Nat} {A : Option Addr} {n c : Nat} {l : List UInt8} (h : Bs w G A n l) (hs : Shp w) (hg : Sgn w) (he : parseE l = 0) (hn : n ≤ 140737488355328) (hc : n ≤ c) (hcm : c ≤ 9223372036854775807) (h0 : 0 ≤ mtu) (h1 : mtu ≤ 65535) :
    Does Tryz.prog 94 [.slice A n c, .int .i64 mtu] w (fun v w' => Tells w w' v (aboutM 0 l mtu)) := by
  have hA := Only.alloc (Only.refl [] w) (.cells ⟨mgC zeroM (none, 0)⟩ 93)
  have b4 := Blk.new w 93 ⟨mgC zeroM (none, 0)⟩
  have em : IntKind.u32.wrap mtu = mtu := by rw [wr32]; omega
  refine Does.enter (fn := Tryz.f94) (by kernel_rfl) rfl (by kernel_rfl) (by kernel_rfl) ?_
  conv => whnf
  refine VIf.dec (fun h => ?_) (fun _ => ?_)
  · have h : mtu < 0 := h
    omega
  conv => whnf
  refine VIf.dec (fun h => ?_) (fun _ => ?_)
  · have h : mtu > 65535 := h
    omega
  conv => whnf
  rw [em]
  refine (about_does (k := 0) (h.o hA) (hs.o hA) (hg.o hA) (by decide) he hn hc hcm).mono ?_
  rintro v w1 ⟨D, G1, rfl, hB, hG, hc1, hc2, ho⟩
  conv => whnf
  refine vStore.all (cs := mgC (aboutM 0 l mtu) D) (b4.only ho (by simp)) (by kernel_rfl) (by kernel_rfl) (one_mgC _ _) (fun wz bz hoz _ => ?_)
  conv => whnf
  refine ⟨_, Loads.all bz (by kernel_rfl) (by kernel_rfl), ?_⟩
  conv => whnf
  exact Tells.up hA hB hG ⟨hc1, hc2⟩ ho (Nat.le_refl _) b4.lt hoz rfl
set_option maxRecDepth 100000 in
theorem look_does {w : World} {m : Mg} {D : At} {G : List Nat} (hv : m.v = 4) (h : Bs w G D.1 m.body.length m.body) (hs : Shp w) (hn : m.body.length ≤ 140737488355328) (hc : m.body.length ≤ D.2) (hcm : D.2 ≤ 9223372036854775807) :
    Does Tryz.prog 101 [.agg ⟨mgC m D⟩] w (fun v w' => lookR w w' v m.body) := by
  have hA := (Only.alloc (Only.refl [] w) (.cells ⟨mgC m D⟩ 93)).alloc (.cells ⟨pkC zeroP (none, 0) (none, 0)⟩ 56)
  have b1 := (Blk.new w 93 ⟨mgC m D⟩).alloc (.cells ⟨pkC zeroP (none, 0) (none, 0)⟩ 56)
  have b2 := Blk.new (w.alloc (.cells ⟨mgC m D⟩ 93)) 56 ⟨pkC zeroP (none, 0) (none, 0)⟩
  have hz := (Only.alloc (Only.refl [] w) (.cells ⟨mgC m D⟩ 93)).size
  obtain ⟨v, typ, code, rest, body⟩ := m
  have hv : v = 4 := hv
  subst hv
  refine Does.enter (fn := Tryz.f101) (by kernel_rfl) rfl (by kernel_rfl) (by kernel_rfl) ?_
  conv => whnf
  refine ⟨.int .i64 4, Loads.one (by kernel_rfl) (b1.at (i := 0) rfl), ?_⟩
  conv => whnf
  refine ⟨.slice D.1 body.length D.2, Loads.one (by kernel_rfl) (b1.at (i := 4) rfl), ?_⟩
  conv => whnf
  refine (look4_does (Bs.o h hA) (hs.o hA) hn hc hcm).mono ?_
  rintro r w1 ⟨p, n, O2, D2, rfl, h1, h2, hp, ho⟩
  have hlp := pk_len (O := O2) (D := D2) hp.ok
  conv => whnf
  refine vStore.all (cs := pkC p O2 D2) (b2.only ho (by simp)) (by rw [hlp]; kernel_rfl) (by rw [hlp]; kernel_rfl) (one_pkC _ _ _) (fun wz bz hoz _ => ?_)
  conv => whnf
  refine ⟨_, Loads.all bz (by kernel_rfl) (by rw [hlp]; kernel_rfl), ?_⟩
  conv => whnf
  exact ⟨p, n, O2, D2, rfl, h1, h2, (hp.far hoz b2.lt).below hA.size, (hA.t0 ho).nw hoz hz⟩
def kOf (x : Int) : Nat := if x = 0 then 0 else if x = 1 then 1 else if x = 2 then 2 else if x = 3 then 3 else 4
def toldM (x : Int) (l : List UInt8) : Mg := aboutM (kOf x) l (if x = 0 then 68 else 0)
set_option maxRecDepth 100000 in
theorem told_does {w : World} {which : Int} {G : List Nat} {A : Option Addr} {n c : Nat} {l : List UInt8} (h : Bs w G A n l) (hs : Shp w) (hg : Sgn w) (he : parseE l = 0) (hn : n ≤ 140737488355328) (hc : n ≤ c) (hcm : c ≤ 9223372036854775807) :
    Does Tryz.prog 38 [.slice A n c, .int .i64 which] w (fun v w' => Tells w w' v (toldM (andI .i64 which 7) l)) := by
  have hA := Only.alloc (Only.refl [] w) (.cells ⟨mgC zeroM (none, 0)⟩ 93)
  have b4 := Blk.new w 93 ⟨mgC zeroM (none, 0)⟩
  refine Does.enter (fn := Tryz.f38) (by kernel_rfl) rfl (by kernel_rfl) (by kernel_rfl) ?_
  conv => whnf
  generalize andI .i64 which 7 = x
  refine VIf.eq (fun h0 => ?_) (fun h0 => ?_)
  · have hM : toldM x l = aboutM 0 l 68 := by
      unfold toldM kOf
      rw [if_pos h0, if_pos h0]
    conv => whnf
    refine (tooBig_does (h.o hA) (hs.o hA) (hg.o hA) he hn hc hcm (by decide) (by decide)).mono ?_
    rintro v w1 ⟨D, G1, rfl, hB, hG, hc1, hc2, ho⟩
    conv => whnf
    refine vStore.all (cs := mgC (aboutM 0 l 68) D) (b4.only ho (by simp)) (by kernel_rfl) (by kernel_rfl) (one_mgC _ _) (fun wz bz hoz _ => ?_)
    conv => whnf
    refine ⟨_, Loads.all bz (by kernel_rfl) (by kernel_rfl), ?_⟩
    conv => whnf
    rw [hM]
    exact Tells.up hA hB hG ⟨hc1, hc2⟩ ho (Nat.le_refl _) b4.lt hoz rfl
  conv => whnf
  refine VIf.eq (fun h1 => ?_) (fun h1 => ?_)
  · have hM : toldM x l = aboutM 1 l 0 := by
      unfold toldM kOf
      rw [if_neg h0, if_pos h1, if_neg h0]
    conv => whnf
    refine (noPort_does (h.o hA) (hs.o hA) (hg.o hA) he hn hc hcm ).mono ?_
    rintro v w1 ⟨D, G1, rfl, hB, hG, hc1, hc2, ho⟩
    conv => whnf
    refine vStore.all (cs := mgC (aboutM 1 l 0) D) (b4.only ho (by simp)) (by kernel_rfl) (by kernel_rfl) (one_mgC _ _) (fun wz bz hoz _ => ?_)
    conv => whnf
    refine ⟨_, Loads.all bz (by kernel_rfl) (by kernel_rfl), ?_⟩
    conv => whnf
    rw [hM]
    exact Tells.up hA hB hG ⟨hc1, hc2⟩ ho (Nat.le_refl _) b4.lt hoz rfl
  conv => whnf
  refine VIf.eq (fun h2 => ?_) (fun h2 => ?_)
  · have hM : toldM x l = aboutM 2 l 0 := by
      unfold toldM kOf
      rw [if_neg h0, if_neg h1, if_pos h2, if_neg h0]
    conv => whnf
    refine (noRoute_does (h.o hA) (hs.o hA) (hg.o hA) he hn hc hcm ).mono ?_
    rintro v w1 ⟨D, G1, rfl, hB, hG, hc1, hc2, ho⟩
    conv => whnf
    refine vStore.all (cs := mgC (aboutM 2 l 0) D) (b4.only ho (by simp)) (by kernel_rfl) (by kernel_rfl) (one_mgC _ _) (fun wz bz hoz _ => ?_)
    conv => whnf
    refine ⟨_, Loads.all bz (by kernel_rfl) (by kernel_rfl), ?_⟩
    conv => whnf
    rw [hM]
    exact Tells.up hA hB hG ⟨hc1, hc2⟩ ho (Nat.le_refl _) b4.lt hoz rfl
  conv => whnf
  refine VIf.eq (fun h3 => ?_) (fun h3 => ?_)
  · have hM : toldM x l = aboutM 3 l 0 := by
      unfold toldM kOf
      rw [if_neg h0, if_neg h1, if_neg h2, if_pos h3, if_neg h0]
    conv => whnf
    refine (timeUp_does (h.o hA) (hs.o hA) (hg.o hA) he hn hc hcm ).mono ?_
    rintro v w1 ⟨D, G1, rfl, hB, hG, hc1, hc2, ho⟩
    conv => whnf
    refine vStore.all (cs := mgC (aboutM 3 l 0) D) (b4.only ho (by simp)) (by kernel_rfl) (by kernel_rfl) (one_mgC _ _) (fun wz bz hoz _ => ?_)
    conv => whnf
    refine ⟨_, Loads.all bz (by kernel_rfl) (by kernel_rfl), ?_⟩
    conv => whnf
    rw [hM]
    exact Tells.up hA hB hG ⟨hc1, hc2⟩ ho (Nat.le_refl _) b4.lt hoz rfl
  have hM : toldM x l = aboutM 4 l 0 := by
    unfold toldM kOf
    rw [if_neg h0, if_neg h1, if_neg h2, if_neg h3, if_neg h0]
  conv => whnf
  refine (lateParts_does (h.o hA) (hs.o hA) (hg.o hA) he hn hc hcm ).mono ?_
  rintro v w1 ⟨D, G1, rfl, hB, hG, hc1, hc2, ho⟩
  conv => whnf
  refine vStore.all (cs := mgC (aboutM 4 l 0) D) (b4.only ho (by simp)) (by kernel_rfl) (by kernel_rfl) (one_mgC _ _) (fun wz bz hoz _ => ?_)
  conv => whnf
  refine ⟨_, Loads.all bz (by kernel_rfl) (by kernel_rfl), ?_⟩
  conv => whnf
  rw [hM]
  exact Tells.up hA hB hG ⟨hc1, hc2⟩ ho (Nat.le_refl _) b4.lt hoz rfl
end Go.Proofs.YtofomopdaponbaaGreatDoor
