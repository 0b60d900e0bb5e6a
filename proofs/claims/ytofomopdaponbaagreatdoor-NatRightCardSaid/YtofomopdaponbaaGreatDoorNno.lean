/-
  A datagram in fragments is remembered (package nat: noted).
-/
import Derived.Test.YtofomopdaponbaaGreatDoorNpa
namespace Go.Proofs.YtofomopdaponbaaGreatDoor
open Go.RowKit
set_option linter.unusedVariables false
set_option linter.unusedSimpArgs false

theorem cell_of_one {u : Value} (h : isOne u = true) : u.oneCell' = true := by
  cases u <;> first | rfl | (exact Bool.noConfusion h)
theorem one_ntCs (z : List Nt) : ∀ u ∈ z.flatMap ntC, u.oneCell' = true := by
  intro u hu
  obtain ⟨x, _, h⟩ := List.mem_flatMap.1 hu
  exact cell_of_one (one_ntC x u h)
theorem Sl.none_ {w : World} {size n : Nat} {G : List Nat} {xs : List Value} (h : Sl w size G none n xs) : n = 0 ∧ xs = [] := by
  rcases Nat.eq_zero_or_pos n with rfl | hn
  · exact ⟨rfl, List.eq_nil_of_length_eq_zero (by rw [h.1]; simp)⟩
  · obtain ⟨b, off, hA, -⟩ := h.some_ hn
    cases hA
set_option maxRecDepth 100000 in
theorem cloneNt_does {w : World} {G : List Nat} {A : Option Addr} {n c : Nat} {z : List Nt} (h : Sl w 55 G A n (z.flatMap ntC)) (hn : n ≤ 4294967296) :
    Does Tryz.prog 139 [.slice A n c] w (fun v w' => Own w w' 185 55 (z.flatMap ntC) v) := by
  refine Does.enter (fn := Tryz.f139) (by kernel_rfl) rfl (by kernel_rfl) (by kernel_rfl) ?_
  cases A with
  | none =>
    obtain ⟨rfl, e⟩ := h.none_
    rw [e]
    conv => whnf
    exact Own.nil _ _ _
  | some a =>
    conv => whnf
    have h2 := h.o ((Only.refl [] w).alloc (.cells ⟨[]⟩ 185))
    refine vFall.append 185 55 104 rfl (by kernel_rfl) rfl (Row.nil _ _ _ _) rfl h2 (one_ntCs z) (by omega) (by omega) ?_
    intro A' c' F' w' hr ho hF
    conv => whnf
    refine ⟨A', 0 + n, c', F', rfl, by simpa using hr, ((Only.refl [] w).alloc _).t0 ho, fun k hk => ?_⟩
    rcases hF k hk with h | h
    · cases h
    · simp at h; omega
/-- The notes behind a new one. -/
def notedL (parts now : Int) (z : List Nt) (k : Ky) (a : Ad) : List Nt :=
  let y := z.filter (fun x => !decide (x.key = k)) ++ [⟨k, a, now⟩]
  if (y.length : Int) > parts then y.drop 1 else y
theorem Sl.cast {w : World} {size n : Nat} {G : List Nat} {A : Option Addr} {xs ys : List Value} (h : Sl w size G A n xs) (hx : xs = ys) : Sl w size G A n ys := hx ▸ h
theorem drop_flat {α : Type} {enc : α → List Value} {size : Nat} (hlen : ∀ x, (enc x).length = size) : ∀ (z : List α) (i : Nat), (z.flatMap enc).drop (i * size) = (z.drop i).flatMap enc
  | z, 0 => by simp
  | [], i + 1 => by simp
  | x :: z, i + 1 => by
    rw [List.flatMap_cons, show (i + 1) * size = (enc x).length + i * size by rw [hlen, Nat.succ_mul]; omega, List.drop_append, List.drop_of_length_le (Nat.le_add_right _ _), List.nil_append, Nat.add_sub_cancel_left, List.drop_succ_cons]
    exact drop_flat hlen z i
set_option maxRecDepth 100000 in
theorem noted_does {w : World} {T : Nat} {t : TypeId} {cf : Cf} {now : Int} {M O I : Value} {F : List Nat} {A : Option Addr} {n c : Nat} {z : List Nt} {p : Pk} {P D : At} {a : Ad}
    (hb : Blk w T t ⟨natC cf now M O I⟩) (ok : okCf cf) (hz : Row w 185 55 F A n c (z.flatMap ntC)) (hT : T ∉ F) (hn : n ≤ 1000000) (hp : okPk p) (okk : okKy (kyP p)) (okz : ∀ x ∈ z, okKy x.key ∧ okAd x.addr) (oka : okAd a) :
    Does Tryz.prog 60 [.pointer (some ⟨T, 0, none⟩), .slice A n c, .agg ⟨pkC p P D⟩, .agg ⟨adC a⟩] w (fun v w' => ∃ A' n' c' F', v = .slice A' n' c' ∧ Row w' 185 55 F' A' n' c' ((notedL cf.parts now z (kyP p) a).flatMap ntC) ∧ Only F w w' ∧ ∀ k ∈ F', k ∈ F ∨ w.heap.size ≤ k) := by
  have hl := hz.sl.num ntC_len (by decide)
  have hA1 := Only.alloc (Only.refl [] w) (.cells ⟨pkC p P D⟩ 56)
  have hA2 := hA1.alloc (.cells ⟨adC a⟩ 24)
  have b6 := (Blk.new w 56 ⟨pkC p P D⟩).alloc (.cells ⟨adC a⟩ 24)
  have b7 := Blk.new (w.alloc (.cells ⟨pkC p P D⟩ 56)) 24 ⟨adC a⟩
  have s1 := World.size_alloc w (.cells ⟨pkC p P D⟩ 56)
  have hF := hz.lt
  have m1 : ∀ q, w.heap.size ≤ q → q ∉ F := fun q hq h => by have := hF _ h; omega
  have q1 : w.heap.size ≤ (w.alloc (.cells ⟨pkC p P D⟩ 56)).heap.size := by omega
  refine Does.enter (fn := Tryz.f60) (by kernel_rfl) rfl (by kernel_rfl) (by kernel_rfl) ?_
  conv => whnf
  refine ⟨_, b6.pkAll hp, ?_⟩
  conv => whnf
  refine (key_does hp).mono ?_
  rintro v w2 ⟨rfl, ho2⟩
  have how2 := hA2.t0 ho2
  have b62 := b6.only ho2 (by simp)
  have b72 := b7.only ho2 (by simp)
  have q2 : w.heap.size ≤ w2.heap.size := how2.size
  conv => whnf
  refine vStore.fresh (cs := kyC (kyP p)) (by rw [kyC_len]; kernel_rfl) (by rw [kyC_len]; rfl) (one_kyC _) (fun w3 b9 ho3 _ => ?_)
  have how3 := how2.t0 ho3
  have b73 := b72.only ho3 (by simp)
  have hz3 := hz.only how3 (by simp)
  have hb3 := hb.only how3 (by simp)
  conv => whnf
  refine (deleteNt_does (p := fun x => decide (x.key = kyP p)) hz3 (fun x hx w' ho => keyIs_does (b9.only ho (m1 _ q2)) okk (okz x hx).1)).mono ?_
  rintro v w4 ⟨k1, rfl, hk1, hrow4, ho4⟩
  have b94 := b9.only ho4 (m1 _ q2)
  have b74 := b73.only ho4 (m1 _ q1)
  have hb4 := hb3.only ho4 hT
  have how4 := how3.zf ho4
  conv => whnf
  refine VDraw.abs fun N1 hN1 => ?_
  refine VDraw.held (fun w' => Blk w' w2.heap.size 173 ⟨kyC (kyP p)⟩ ∧ Blk w' (w.alloc (.cells ⟨pkC p P D⟩ 56)).heap.size 24 ⟨adC a⟩ ∧ Blk w' T t ⟨natC cf now M O I⟩) [0, 1, 2, 3, 4, 5, 6, 7, 8, 9, 10] (by kernel_rfl) (by kernel_rfl) ⟨b94.drew, b74.drew, hb4.drew⟩ ?_
  conv => whnf
  refine ⟨_, fun w' hw' => Loads.all hw'.1 (by kernel_rfl) (by rw [kyC_len]; kernel_rfl), ?_⟩
  conv => whnf
  refine ⟨_, fun w' hw' => Loads.all hw'.2.1 (by kernel_rfl) (by rw [adC_len oka]; kernel_rfl), ?_⟩
  conv => whnf
  refine ⟨_, fun w' hw' => Loads.one (by kernel_rfl) (hw'.2.2.ntNow ok), ?_⟩
  conv => whnf
  refine lenIs.of (Nat.succ.inj (Nat.succ.inj (kyC_len (kyP p)))) ?_
  conv => whnf
  refine lenIs.of (by rw [List.length_map]; exact oka.2.2) ?_
  conv => whnf
  have ex : (kyC (kyP p) ++ (adC a ++ [Value.int .i64 now])) ++ [] = ntC ⟨kyP p, a, now⟩ := by simp [ntC, adP_id oka]
  have e55 : ((kyC (kyP p) ++ (adC a ++ [Value.int .i64 now])) ++ []).length = 55 := by rw [ex, ntC_len]
  have e56 : (kyC (kyP p) ++ (adC a ++ [Value.int .i64 now])).length = 55 := by rw [← e55]; simp
  refine lenIs.of (Nat.succ.inj (Nat.succ.inj e56)) ?_
  conv => whnf
  refine ⟨⟨b94.drew.alloc _, b74.drew.alloc _, hb4.drew.alloc _⟩, ?_⟩
  conv => whnf
  refine vFall.append 185 55 104 rfl (by kernel_rfl) rfl (hrow4.drew.alloc _) rfl (Sl.new w4.drew 185 55 ((kyC (kyP p) ++ (adC a ++ [Value.int .i64 now])) ++ []) 1 e55) (by rw [ex]; exact fun u hu => cell_of_one (one_ntC _ u hu)) (by omega) (by omega) ?_
  intro A5 c5 F5 w5 hr5 ho5 hF5
  have hal := (Only.refl [] w4.drew).alloc (.cells ⟨(kyC (kyP p) ++ (adC a ++ [Value.int .i64 now])) ++ []⟩ 185)
  have hoA : Only F w4.drew w5 := hal.zf ho5
  have how5 : Only F w w5 := how4.drew.ff hoA
  have hb5 := hb4.drew.only hoA hT
  refine ⟨⟨b94.drew.only hoA (m1 _ q2), b74.drew.only hoA (m1 _ q1), hb5⟩, ?_⟩
  have hr5' := hr5.cast (ys := (z.filter (fun x => !decide (x.key = kyP p)) ++ [(⟨kyP p, a, now⟩ : Nt)]).flatMap ntC) (by rw [ex]; simp)
  generalize hy : z.filter (fun x => !decide (x.key = kyP p)) ++ [(⟨kyP p, a, now⟩ : Nt)] = y at hr5'
  have hyl : y.length = k1 + 1 := hr5'.sl.num ntC_len (by decide)
  have hF5' : ∀ k ∈ F5, k ∈ F ∨ w.heap.size ≤ k := fun k hk => by
    rcases hF5 k hk with h | h
    · exact .inl h
    · exact .inr (Nat.le_trans (how4.drew.f0 ((Only.refl [] w4.drew).alloc _)).size h)
  conv => whnf
  refine hN1 _ _ ?_
  conv => whnf
  refine VJoin.go (by kernel_rfl) ?_
  conv => whnf
  refine ⟨_, Loads.one (by kernel_rfl) (hb5.ntParts ok), ?_⟩
  conv => whnf
  have hres : notedL cf.parts now z (kyP p) a = if (y.length : Int) > cf.parts then y.drop 1 else y := by rw [← hy]; rfl
  refine VIf.dec (fun ht => ?_) (fun ht => ?_)
  · have ht : ((k1 + 1 : Nat) : Int) > cf.parts := ht
    conv => whnf
    refine ⟨1, k1 + 1, c5, rfl, rfl, rfl, by omega, (by have := hr5'.le.1; omega), by omega, if c5 = 1 then A5 else A5.map (·.add (1 * 55)), k1 + 1 - 1, c5 - 1, rfl, rfl, rfl, ?_⟩
    conv => whnf
    refine (cloneNt_does (z := y.drop 1) ((hr5'.sl.cut (l := 1) (h := k1 + 1) (m := c5) (by omega) hr5'.le.1 (Nat.le_refl _) rfl).cast ?_) (by omega)).mono ?_
    · rw [drop_flat ntC_len, List.take_of_length_le]
      rw [flat_len ntC_len, List.length_drop]
      omega
    rintro v w6 ⟨A6, n6, c6, F6, rfl, hr6, ho6, hF6⟩
    conv => whnf
    refine ⟨A6, n6, c6, F6, rfl, ?_, how5.f0 ho6, fun k hk => .inr (Nat.le_trans how5.size (hF6 k hk))⟩
    rw [hres, if_pos (by omega)]
    exact hr6
  · have ht : ¬ ((k1 + 1 : Nat) : Int) > cf.parts := ht
    conv => whnf
    refine ⟨A5, k1 + 1, c5, F5, rfl, ?_, how5, hF5'⟩
    rw [hres, if_neg (by omega)]
    exact hr5'
end Go.Proofs.YtofomopdaponbaaGreatDoor
