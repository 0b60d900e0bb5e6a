/-
  An inside end's mapping, made if need be (package nat: mapped).
-/
import Derived.Test.YtofomopdaponbaaGreatDoorNno
namespace Go.Proofs.YtofomopdaponbaaGreatDoor
open Go.RowKit
set_option linter.unusedVariables false
set_option linter.unusedSimpArgs false

theorem idxI_bd {α : Type} (p : α → Bool) (z : List α) : -1 ≤ idxI p z ∧ idxI p z < z.length ∨ idxI p z = -1 := by
  unfold idxI
  split
  · rename_i i hi
    have := (List.findIdx?_eq_some_iff_getElem.1 hi).1
    exact .inl (by omega)
  · exact .inr rfl
/-- The first free port, of n from here. -/
def freeFrom (z : List Nm) : Int → Nat → Option Int
  | _, 0 => none
  | out, n + 1 => if idxI (fun m : Nm => m.out == out) z < 0 then some out else freeFrom z (out + 1) n
def mappedS (s : NatS) (a : Ad) (port : Int) : Int × List Nm :=
  if idxI (endIs a port) s.maps ≥ 0 then (idxI (endIs a port) s.maps, s.maps)
  else if (s.maps.length : Int) ≥ s.cf.maps then (-1, s.maps)
  else match freeFrom s.maps s.cf.first (s.cf.last + 1 - s.cf.first).toNat with
    | some out => ((s.maps.length : Int), s.maps ++ [⟨a, port, out, 0⟩])
    | none => (-1, s.maps)
theorem one_nmCs (z : List Nm) : ∀ u ∈ z.flatMap nmC, u.oneCell' = true := by
  intro u hu
  obtain ⟨x, _, h⟩ := List.mem_flatMap.1 hu
  exact cell_of_one (one_nmC x u h)
set_option maxRecDepth 100000 in
theorem mapped_does {w : World} {T : Nat} {s : NatS} {F : List Nat} {a : Ad} {port : Int} (h : St w T s F) (ok : okS s) (oka : okAd a) :
    Does Tryz.prog 63 [.pointer (some ⟨T, 0, none⟩), .agg ⟨adC a⟩, .int .i64 port] w (fun v w' => v = .int .i64 (mappedS s a port).1 ∧ ∃ F', St w' T ⟨s.cf, s.now, (mappedS s a port).2, s.outs, s.ins⟩ F' ∧ Only F w w' ∧ ∀ k ∈ F', k ∈ F ∨ w.heap.size ≤ k) := by
  obtain ⟨cf, now, maps, outs, ins⟩ := s
  obtain ⟨A1, n1, c1, F1, A2, n2, c2, F2, A3, n3, c3, F3, hb, hr, rfl⟩ := h
  have okc : okCf cf := ok.cf
  have hl := hr.m.sl.num nmC_len (by decide)
  have hnm : (maps.length : Int) ≤ cf.maps := ok.nmaps
  have hcm : cf.maps ≤ 256 := ok.cmaps
  have hfi : 1 ≤ cf.first := ok.first
  have hla : cf.last ≤ 65535 := ok.last
  dsimp only at hb hl
  have hA := Only.alloc (Only.refl [] w) (.cells ⟨adC a⟩ 24)
  have b4 := Blk.new w 24 ⟨adC a⟩
  have t1 : T ∉ F1 := hr.m.ne_blk hb (by decide)
  have same : ∀ w', Only [] w w' → ∃ F', St w' T ⟨cf, now, maps, outs, ins⟩ F' ∧ Only (T :: (F1 ++ (F2 ++ F3))) w w' ∧ ∀ k ∈ F', k ∈ T :: (F1 ++ (F2 ++ F3)) ∨ w.heap.size ≤ k := fun w' ho =>
    ⟨_, ⟨A1, n1, c1, F1, A2, n2, c2, F2, A3, n3, c3, F3, hb.only ho (by simp), hr.only ho (by simp), rfl⟩, ho.up, fun k hk => .inl hk⟩
  have hm0 : mappedS ⟨cf, now, maps, outs, ins⟩ a port = if idxI (endIs a port) maps ≥ 0 then (idxI (endIs a port) maps, maps)
    else if (maps.length : Int) ≥ cf.maps then (-1, maps)
    else match freeFrom maps cf.first (cf.last + 1 - cf.first).toNat with
      | some out => ((maps.length : Int), maps ++ [⟨a, port, out, 0⟩])
      | none => (-1, maps) := rfl
  refine Does.enter (fn := Tryz.f63) (by kernel_rfl) rfl (by kernel_rfl) (by kernel_rfl) ?_
  conv => whnf
  refine ⟨_, Loads.all b4 (by kernel_rfl) (by rw [adC_len oka]; kernel_rfl), ?_⟩
  conv => whnf
  refine (ofEnd_does (hb.only hA (by simp)) okc oka (hr.m.sl.o hA) ok.maps (by omega)).mono ?_
  rintro v w2 ⟨rfl, ho2⟩
  have how2 := hA.t0 ho2
  have b42 := b4.only ho2 (by simp)
  have hb2 := hb.only how2 (by simp)
  have hr2 := hr.only how2 (by simp)
  conv => whnf
  refine VIf.dec (fun h1 => ?_) (fun h1 => ?_)
  · conv => whnf
    rw [hm0, if_pos h1]
    exact ⟨rfl, same _ how2⟩
  rw [if_neg h1] at hm0
  conv => whnf
  refine VDraw.abs fun N1 hN1 => ?_
  refine VDraw.q (by kernel_rfl) (by kernel_rfl) ?_
  conv => whnf
  refine ⟨_, fun w' hw' => Loads.one (by kernel_rfl) ((hb2.only hw' (by simp)).ntM okc), ?_⟩
  conv => whnf
  refine ⟨_, fun w' hw' => Loads.one (by kernel_rfl) ((hb2.only hw' (by simp)).ntMaps okc), ?_⟩
  conv => whnf
  intro w3 ho3
  have how3 := how2.t0 ho3
  have b43 := b42.only ho3 (by simp)
  have hb3 := hb2.only ho3 (by simp)
  have hr3 := hr2.only ho3 (by simp)
  conv => whnf
  refine hN1 _ _ ?_
  conv => whnf
  refine VIf.dec (fun h2 => ?_) (fun h2 => ?_)
  · have h2 : (n1 : Int) ≥ cf.maps := h2
    conv => whnf
    rw [hm0, if_pos (by omega)]
    exact ⟨rfl, same _ how3⟩
  have h2 : ¬ (n1 : Int) ≥ cf.maps := h2
  rw [if_neg (by omega)] at hm0
  conv => whnf
  refine ⟨_, Loads.one (by kernel_rfl) (hb3.ntFirst okc), ?_⟩
  conv => whnf
  generalize hN : (cf.last + 1 - cf.first).toNat = N at hm0
  refine VLoop.inv (α := Nat) [(6, 7), (8, 9), (32, 64)] (fun k => [(8, .int .i64 (cf.first + (k : Nat)))]) (fun k w' => Only [] w3 w' ∧ k ≤ N ∧ freeFrom maps cf.first N = freeFrom maps (cf.first + (k : Nat)) (N - k)) (fun k => N - k) 0 (by kernel_rfl) ⟨congrArg (Value.int IntKind.i64) (by omega), trivial⟩ ⟨Only.refl _ _, Nat.zero_le _, by simp⟩ ?_
  rintro k wr j ⟨ho, hk, hfree⟩
  have howr := how3.t0 ho
  have b4r := b43.only ho (by simp)
  have hbr := hb3.only ho (by simp)
  have hrr := hr3.only ho (by simp)
  conv => whnf
  refine ⟨_, Loads.one (by kernel_rfl) (hbr.ntLast okc), ?_⟩
  conv => whnf
  refine VIf.dec (fun h3 => ?_) (fun h3 => ?_)
  rotate_left
  · conv => whnf
    have e0 : N - k = 0 := by omega
    rw [hm0, hfree, e0]
    exact ⟨rfl, same _ howr⟩
  have e1 : N - k = (N - (k + 1)) + 1 := by omega
  rw [e1, show freeFrom maps (cf.first + (k : Nat)) (N - (k + 1) + 1) = (if idxI (fun m : Nm => m.out == cf.first + (k : Nat)) maps < 0 then some (cf.first + (k : Nat)) else freeFrom maps (cf.first + (k : Nat) + 1) (N - (k + 1))) from rfl] at hfree
  conv => whnf
  refine (ofPort_does hbr okc hrr.m.sl (by omega)).mono ?_
  rintro v w4 ⟨rfl, ho4⟩
  have how4 := howr.t0 ho4
  have b44 := b4r.only ho4 (by simp)
  have hb4 := hbr.only ho4 (by simp)
  have hr4 := hrr.only ho4 (by simp)
  conv => whnf
  refine VIf.dec (fun h4 => ?_) (fun h4 => ?_)
  rotate_left
  · conv => whnf
    have e2 : IntKind.i64.wrap (cf.first + (k : Nat) + 1) = cf.first + ((k + 1 : Nat) : Int) := by rw [wi64]; omega
    refine ⟨k + 1, ⟨congrArg (Value.int IntKind.i64) e2, trivial⟩, ⟨ho.t0 ho4, by omega, ?_⟩, by omega⟩
    rw [if_neg h4] at hfree
    rw [hfree]
    congr 1
    omega
  rw [if_pos h4] at hfree
  rw [hfree] at hm0
  conv => whnf
  refine VDraw.abs fun N2 hN2 => ?_
  refine VDraw.ahead 13 (fun w' => True) (fun w' => Blk w' T 103 ⟨natC cf now (.slice A1 n1 c1) (.slice A2 n2 c2) (.slice A3 n3 c3)⟩ ∧ Blk w' w.heap.size 24 ⟨adC a⟩) [0, 1, 2, 3, 4, 5, 6, 7, 8, 9, 10, 11, 12, 13] (by kernel_rfl) (by kernel_rfl) trivial ⟨hb4.drew, b44.drew⟩ ?_
  conv => whnf
  refine ⟨_, fun w' hw' => Loads.one (by kernel_rfl) (hw'.2.1.ntM okc), ?_⟩
  conv => whnf
  refine ⟨_, fun w' hw' => Loads.all hw'.2.2 (by kernel_rfl) (by rw [adC_len oka]; kernel_rfl), ?_⟩
  conv => whnf
  refine lenIs.of (by rw [List.length_map]; exact oka.2.2) ?_
  conv => whnf
  have ex : (adC a ++ [Value.int .i64 port, .int .i64 (cf.first + (k : Nat)), .int .i64 0]) ++ [] = nmC ⟨a, port, cf.first + (k : Nat), 0⟩ := by simp [nmC, adP_id oka]
  have e55 : ((adC a ++ [Value.int .i64 port, .int .i64 (cf.first + (k : Nat)), .int .i64 0]) ++ []).length = 20 := by rw [ex, nmC_len]
  have e56 : (adC a ++ [Value.int .i64 port, .int .i64 (cf.first + (k : Nat)), .int .i64 0]).length = 20 := by rw [← e55]; simp
  refine lenIs.of (Nat.succ.inj e56) ?_
  conv => whnf
  refine ⟨⟨trivial, fun _ => ⟨hb4.drew.alloc _, b44.drew.alloc _⟩⟩, ?_⟩
  conv => whnf
  refine vFall.append 48 20 48 rfl (by kernel_rfl) rfl (hr4.m.drew.alloc _) rfl (Sl.new w4.drew 48 20 ((adC a ++ [Value.int .i64 port, .int .i64 (cf.first + (k : Nat)), .int .i64 0]) ++ []) 1 e55) (by rw [ex]; exact fun u hu => cell_of_one (one_nmC _ u hu)) (by omega) (by omega) ?_
  intro A5 c5 F5 w5 hr5 ho5 hF5
  have hal := (Only.refl [] w4.drew).alloc (.cells ⟨(adC a ++ [Value.int .i64 port, .int .i64 (cf.first + (k : Nat)), .int .i64 0]) ++ []⟩ 48)
  have hoA : Only F1 w4.drew w5 := hal.zf ho5
  have how5 : Only F1 w w5 := how4.drew.up.ff hoA
  have hb5 := hb4.drew.only hoA t1
  have b45 := b44.drew.only hoA (fun hm => by have := hr.m.lt _ hm; omega)
  refine ⟨⟨trivial, fun _ => ⟨hb5, b45⟩⟩, ?_⟩
  have hr5' := hr5.cast (ys := (maps ++ [(⟨a, port, cf.first + (k : Nat), 0⟩ : Nm)]).flatMap nmC) (by rw [ex]; simp)
  have hF5' : ∀ k ∈ F5, k ∈ F1 ∨ w.heap.size ≤ k := fun k hk => by
    rcases hF5 k hk with h | h
    · exact .inl h
    · exact .inr (Nat.le_trans (how4.drew.t0 hal).size h)
  have ho5m := hr4.o.drew.only hoA (fun k hk h => (hr.m.ne_row hr.o (by decide)) k h hk)
  have hi5m := hr4.i.drew.only hoA (fun k hk h => (hr.m.ne_row hr.i (by decide)) k h hk)
  conv => whnf
  refine vStore.one hb5 (by kernel_rfl) rfl (i := 42) (u := .slice A1 n1 c1) ((nat_tail okc 7).trans rfl) (fun hb6 ho6 => ?_)
  rw [natC_setM okc] at hb6
  refine ⟨⟨trivial, fun h => Bool.noConfusion h⟩, ?_⟩
  have nT : ∀ {F : List Nat}, T ∉ F → ∀ k ∈ F, k ∉ [T] := fun ht k hk h => by
    obtain rfl : k = T := by simpa using h
    exact ht hk
  have t5 : T ∉ F5 := hr5'.ne_blk hb5 (by decide)
  have hm6 := hr5'.only ho6 (nT t5)
  have ho6m := ho5m.only ho6 (nT (hr.o.ne_blk hb (by decide)))
  have hi6m := hi5m.only ho6 (nT (hr.i.ne_blk hb (by decide)))
  have how6 : Only (T :: (F1 ++ (F2 ++ F3))) w _ := (how5.mono (G := T :: (F1 ++ (F2 ++ F3))) (fun x hx => .inl (by simp [hx]))).trans ho6 (fun x hx => .inl (by simp at hx; simp [hx]))
  refine hN2 _ _ ?_
  conv => whnf
  refine ⟨_, Loads.one (by kernel_rfl) (hb6.ntM okc), ?_⟩
  conv => whnf
  rw [hm0]
  have e7 : IntKind.i64.wrap (((n1 + 1 : Nat) : Int) - 1) = (maps.length : Int) := by rw [wi64]; omega
  refine ⟨congrArg (Value.int IntKind.i64) e7, T :: (F5 ++ (F2 ++ F3)), ⟨A5, n1 + 1, c5, F5, A2, n2, c2, F2, A3, n3, c3, F3, hb6, ⟨hm6, ho6m, hi6m, hr.d⟩, rfl⟩, how6, ?_⟩
  intro k hk
  simp only [List.mem_cons, List.mem_append] at hk ⊢
  rcases hk with hk | hk | hk | hk
  · exact .inl (.inl hk)
  · rcases hF5' k hk with h | h
    · exact .inl (.inr (.inl h))
    · exact .inr h
  · exact .inl (.inr (.inr (.inl hk)))
  · exact .inl (.inr (.inr (.inr hk)))
end Go.Proofs.YtofomopdaponbaaGreatDoor
