/-
  The state of a Nat in memory; time goes by (package nat: passes).
-/
import Derived.Test.YtofomopdaponbaaGreatDoorZf
import Derived.Test.YtofomopdaponbaaGreatDoorYHe
namespace Go.Proofs.YtofomopdaponbaaGreatDoor
open Go.RowKit
set_option linter.unusedVariables false
set_option linter.unusedSimpArgs false

/-- Two rows of different element types lie in different blocks. -/
theorem Row.ne_row {w : World} {e e' size size' n n' c c' : Nat} {F F' : List Nat} {A A' : Option Addr} {xs xs' : List Value} (h : Row w e size F A n c xs) (h' : Row w e' size' F' A' n' c' xs') (hne : e ≠ e') : ∀ k ∈ F, k ∉ F' := by
  rcases h' with ⟨rfl, _⟩ | ⟨g, rfl, _, h'⟩
  · simp
  · intro k hk hm
    obtain rfl : k = g := by simpa using hm
    rcases h'.2 with ⟨h', _⟩ | ⟨g', cap, cur, hv, _, hh, _⟩
    · cases h'
    · injection hv with h1
      injection h1 with h1
      injection h1 with h1
      subst h1
      exact h.ne_blk (q := k) (t := e') hh hne hk
structure NatS where
  cf : Cf
  now : Int
  maps : List Nm
  outs : List Nt
  ins : List Nt
structure okS (s : NatS) : Prop where
  cf : okCf s.cf
  first : 1 ≤ s.cf.first
  last : s.cf.last ≤ 65535
  cmaps : s.cf.maps ≤ 256
  cparts : 1 ≤ s.cf.parts ∧ s.cf.parts ≤ 64
  nmaps : (s.maps.length : Int) ≤ s.cf.maps
  nouts : (s.outs.length : Int) ≤ s.cf.parts
  nins : (s.ins.length : Int) ≤ s.cf.parts
  maps : ∀ m ∈ s.maps, okAd m.addr
  outs : ∀ x ∈ s.outs, okKy x.key ∧ okAd x.addr
  ins : ∀ x ∈ s.ins, okKy x.key ∧ okAd x.addr
/-- The three rows of a Nat. -/
structure Rws (w : World) (s : NatS) (A1 : Option Addr) (n1 c1 : Nat) (F1 : List Nat) (A2 : Option Addr) (n2 c2 : Nat) (F2 : List Nat) (A3 : Option Addr) (n3 c3 : Nat) (F3 : List Nat) : Prop where
  m : Row w 48 20 F1 A1 n1 c1 (s.maps.flatMap nmC)
  o : Row w 185 55 F2 A2 n2 c2 (s.outs.flatMap ntC)
  i : Row w 185 55 F3 A3 n3 c3 (s.ins.flatMap ntC)
  d : ∀ k ∈ F2, k ∉ F3
/-- A Nat lies at T in the state s; its blocks are F. -/
def St (w : World) (T : Nat) (s : NatS) (F : List Nat) : Prop :=
  ∃ A1 n1 c1 F1 A2 n2 c2 F2 A3 n3 c3 F3, Blk w T 103 ⟨natC s.cf s.now (.slice A1 n1 c1) (.slice A2 n2 c2) (.slice A3 n3 c3)⟩ ∧ Rws w s A1 n1 c1 F1 A2 n2 c2 F2 A3 n3 c3 F3 ∧ F = T :: (F1 ++ (F2 ++ F3))
theorem Rws.only {w w' : World} {s : NatS} {A1 A2 A3 : Option Addr} {n1 c1 n2 c2 n3 c3 : Nat} {F1 F2 F3 G : List Nat} (h : Rws w s A1 n1 c1 F1 A2 n2 c2 F2 A3 n3 c3 F3) (ho : Only G w w') (hd : ∀ k ∈ F1 ++ (F2 ++ F3), k ∉ G) : Rws w' s A1 n1 c1 F1 A2 n2 c2 F2 A3 n3 c3 F3 :=
  ⟨h.m.only ho (fun k hk => hd k (by simp [hk])), h.o.only ho (fun k hk => hd k (by simp [hk])), h.i.only ho (fun k hk => hd k (by simp [hk])), h.d⟩
theorem St.only {w w' : World} {T : Nat} {s : NatS} {F G : List Nat} (h : St w T s F) (ho : Only G w w') (hd : ∀ k ∈ F, k ∉ G) : St w' T s F := by
  obtain ⟨A1, n1, c1, F1, A2, n2, c2, F2, A3, n3, c3, F3, hb, hr, rfl⟩ := h
  exact ⟨A1, n1, c1, F1, A2, n2, c2, F2, A3, n3, c3, F3, hb.only ho (hd _ (by simp)), hr.only ho (fun k hk => hd k (List.mem_cons_of_mem _ hk)), rfl⟩
theorem St.o {w w' : World} {T : Nat} {s : NatS} {F : List Nat} (h : St w T s F) (ho : Only [] w w') : St w' T s F := h.only ho (by simp)
theorem St.lt {w : World} {T : Nat} {s : NatS} {F : List Nat} (h : St w T s F) : ∀ k ∈ F, k < w.heap.size := by
  obtain ⟨A1, n1, c1, F1, A2, n2, c2, F2, A3, n3, c3, F3, hb, hr, rfl⟩ := h
  intro k hk
  simp only [List.mem_cons, List.mem_append] at hk
  rcases hk with rfl | hk | hk | hk
  · exact hb.lt
  · exact hr.m.lt k hk
  · exact hr.o.lt k hk
  · exact hr.i.lt k hk
section
variable {c : Cf} {now : Int} {M O I v : Value}
theorem natC_set (ok : okCf c) (j : Nat) : (natC c now M O I).set (35 + j) v = adC c.net ++ (.int .i64 c.bits :: (adC c.outside ++ (cfT c ++ [.int .i64 now, M, O, I]).set j v)) := by
  have e1 := adC_len ok.net
  have e2 := adC_len ok.outside
  unfold natC
  rw [List.set_append_right _ _ (by omega), e1, show 35 + j - 17 = (17 + j) + 1 by omega, List.set_cons_succ, List.set_append_right _ _ (by omega), e2, show 17 + j - 17 = j by omega]
theorem natC_setNow (ok : okCf c) (x : Int) : (natC c now M O I).set 41 (.int .i64 x) = natC c x M O I := natC_set ok 6
theorem natC_setM (ok : okCf c) : (natC c now M O I).set 42 v = natC c now v O I := natC_set ok 7
theorem natC_setO (ok : okCf c) : (natC c now M O I).set 43 v = natC c now M v I := natC_set ok 8
theorem natC_setI (ok : okCf c) : (natC c now M O I).set 44 v = natC c now M O v := natC_set ok 9
end
def passesS (s : NatS) (now : Int) : Bool × NatS :=
  if betweenI now s.now 1099511627776 = true then (true, ⟨s.cf, now, s.maps.filter (fun m => !aged now m.used s.cf.life), s.outs.filter (fun x => !aged now x.from_ s.cf.hold), s.ins.filter (fun x => !aged now x.from_ s.cf.hold)⟩)
  else (false, s)
theorem passes_ok {s : NatS} (h : okS s) (now : Int) : okS (passesS s now).2 := by
  unfold passesS
  split
  · exact ⟨h.cf, h.first, h.last, h.cmaps, h.cparts, Int.le_trans (Int.ofNat_le.2 (List.length_filter_le _ _)) h.nmaps, Int.le_trans (Int.ofNat_le.2 (List.length_filter_le _ _)) h.nouts, Int.le_trans (Int.ofNat_le.2 (List.length_filter_le _ _)) h.nins, fun m hm => h.maps m ((List.mem_filter.1 hm).1), fun m hm => h.outs m ((List.mem_filter.1 hm).1), fun m hm => h.ins m ((List.mem_filter.1 hm).1)⟩
  · exact h
set_option maxRecDepth 100000 in
theorem passes_does {w : World} {T : Nat} {s : NatS} {F : List Nat} {now : Int} (h : St w T s F) (ok : okS s) :
    Does Tryz.prog 125 [.pointer (some ⟨T, 0, none⟩), .int .i64 now] w (fun v w' => v = .bool (passesS s now).1 ∧ St w' T (passesS s now).2 F ∧ Only F w w') := by
  obtain ⟨cf, now0, maps, outs, ins⟩ := s
  obtain ⟨A1, n1, c1, F1, A2, n2, c2, F2, A3, n3, c3, F3, hb, hr, rfl⟩ := h
  have okc : okCf cf := ok.cf
  dsimp only at hb
  have hA1 := Only.alloc (Only.refl [] w) (.cells ⟨[.pointer (some ⟨T, 0, none⟩)]⟩ 29)
  have hA := hA1.alloc (.cells ⟨[.int .i64 now]⟩ 2)
  have hbn := (Blk.new w 29 ⟨[.pointer (some ⟨T, 0, none⟩)]⟩).alloc (.cells ⟨[.int .i64 now]⟩ 2)
  have hbt := Blk.new (w.alloc (.cells ⟨[.pointer (some ⟨T, 0, none⟩)]⟩ 29)) 2 ⟨[.int .i64 now]⟩
  refine Does.enter (fn := Tryz.f125) (by kernel_rfl) rfl (by kernel_rfl) (by kernel_rfl) ?_
  conv => whnf
  refine VDraw.abs fun N0 hN => ?_
  refine VDraw.q (by kernel_rfl) (by kernel_rfl) ?_
  conv => whnf
  refine ⟨_, fun w' hw' => Loads.one (by kernel_rfl) ((hbt.only hw' (by simp)).at (i := 0) rfl), ?_⟩
  conv => whnf
  refine ⟨_, fun w' hw' => Loads.one (by kernel_rfl) ((hbn.only hw' (by simp)).at (i := 0) rfl), ?_⟩
  conv => whnf
  refine ⟨_, fun w' hw' => Loads.one (by kernel_rfl) ((hb.only (hA.t0 hw') (by simp)).ntNow okc), ?_⟩
  conv => whnf
  refine ⟨_, fun w' hw' => between_does.mono (fun v w2 e => ⟨e.1, e.2 ▸ hw'⟩), ?_⟩
  conv => whnf
  intro w2 ho2
  conv => whnf
  refine hN _ _ ?_
  have how2 := hA.t0 ho2
  conv => whnf
  refine VIf.not (VIf.of (b := betweenI now now0 1099511627776) (fun e => ?_) (fun e => ?_))
  rotate_left
  · conv => whnf
    simp only [passesS, e]
    exact ⟨rfl, ⟨A1, n1, c1, F1, A2, n2, c2, F2, A3, n3, c3, F3, hb.only how2 (by simp), hr.only how2 (by simp), rfl⟩, how2.up⟩
  simp only [passesS, e, if_true]
  have hbn2 := hbn.only ho2 (by simp)
  have hbt2 := hbt.only ho2 (by simp)
  have hb2 := hb.only how2 (by simp)
  have hr2 := hr.only how2 (by simp)
  have sz1 := World.size_alloc w (.cells ⟨[.pointer (some ⟨T, 0, none⟩)]⟩ 29)
  have hTl : T < w.heap.size := hb.lt
  have t1 : T ∉ F1 := hr.m.ne_blk hb (by decide)
  have t2 : T ∉ F2 := hr.o.ne_blk hb (by decide)
  have t3 : T ∉ F3 := hr.i.ne_blk hb (by decide)
  have d12 := hr.m.ne_row hr.o (by decide)
  have d13 := hr.m.ne_row hr.i (by decide)
  have d23 := hr.d
  have m1 : ∀ q, w.heap.size ≤ q → q ∉ F1 := fun q hq h => by have := hr.m.lt _ h; omega
  have m2 : ∀ q, w.heap.size ≤ q → q ∉ F2 := fun q hq h => by have := hr.o.lt _ h; omega
  have m3 : ∀ q, w.heap.size ≤ q → q ∉ F3 := fun q hq h => by have := hr.i.lt _ h; omega
  have mT : ∀ q, w.heap.size ≤ q → q ∉ [T] := fun q hq h => by
    have : q = T := by simpa using h
    omega
  have q1 : w.heap.size ≤ w.heap.size := Nat.le_refl _
  have q2 : w.heap.size ≤ (w.alloc (.cells ⟨[.pointer (some ⟨T, 0, none⟩)]⟩ 29)).heap.size := by omega
  conv => whnf
  refine ⟨_, Loads.one (by kernel_rfl) (hbn2.at (i := 0) rfl), ?_⟩
  conv => whnf
  refine ⟨_, Loads.one (by kernel_rfl) (hbt2.at (i := 0) rfl), ?_⟩
  conv => whnf
  refine vStore.one hb2 (by kernel_rfl) rfl (i := 41) (u := .int .i64 now0) ((nat_tail okc 6).trans rfl) (fun hb3 ho3 => ?_)
  rw [natC_setNow okc] at hb3
  have hbn3 := hbn2.only ho3 (mT _ q1)
  have hbt3 := hbt2.only ho3 (mT _ q2)
  have hr3 := hr2.only ho3 (fun k hk h => by
    obtain rfl : k = T := by simpa using h
    simp [t1, t2, t3] at hk)
  have how3 : Only [T] w _ := how2.zf ho3
  conv => whnf
  refine VDraw.abs fun N1 hN1 => ?_
  refine VDraw.ahead 9 (fun w' => Blk w' w.heap.size 29 ⟨[.pointer (some ⟨T, 0, none⟩)]⟩) (fun w' => Blk w' T 103 ⟨natC cf now (.slice A1 n1 c1) (.slice A2 n2 c2) (.slice A3 n3 c3)⟩) [0, 1, 2, 3, 4, 5, 6, 7, 8, 9] (by kernel_rfl) (by kernel_rfl) hbn3.drew hb3.drew ?_
  conv => whnf
  refine ⟨_, fun w' hw' => Loads.one (by kernel_rfl) (hw'.1.at (i := 0) rfl), ?_⟩
  conv => whnf
  refine ⟨_, fun w' hw' => Loads.one (by kernel_rfl) (hw'.1.at (i := 0) rfl), ?_⟩
  conv => whnf
  refine ⟨_, fun w' hw' => Loads.one (by kernel_rfl) (hw'.2.ntM okc), ?_⟩
  conv => whnf
  refine (deleteNm_does (p := fun m => aged now m.used cf.life) hr3.m.drew (fun x hx w' ho => agedM_does (hbt3.drew.only ho (m1 _ q2)) (hbn3.drew.only ho (m1 _ q1)) (hb3.drew.only ho t1) okc)).mono ?_
  rintro v w4 ⟨k1, rfl, hk1, hrow4, ho4⟩
  have hb4 := hb3.drew.only ho4 t1
  have hbn4 := hbn3.drew.only ho4 (m1 _ q1)
  have hbt4 := hbt3.drew.only ho4 (m1 _ q2)
  have ho4' := hr3.o.drew.only ho4 (fun k hk h => d12 k h hk)
  have hi4' := hr3.i.drew.only ho4 (fun k hk h => d13 k h hk)
  have how4 : Only (T :: F1) w w4 := (how3.drew.mono (G := T :: F1) (fun x hx => .inl (by simp at hx; simp [hx]))).trans ho4 (fun x hx => .inl (by simp [hx]))
  refine ⟨⟨hbn4, fun _ => hb4⟩, ?_⟩
  conv => whnf
  refine vStore.one hb4 (by kernel_rfl) rfl (i := 42) (u := .slice A1 n1 c1) ((nat_tail okc 7).trans rfl) (fun hb5 ho5 => ?_)
  rw [natC_setM okc] at hb5
  have hbn5 := hbn4.only ho5 (mT _ q1)
  have hbt5 := hbt4.only ho5 (mT _ q2)
  refine ⟨⟨hbn5, fun h => Bool.noConfusion h⟩, ?_⟩
  have hm5 := hrow4.only ho5 (fun k hk h => by
    obtain rfl : k = T := by simpa using h
    exact t1 hk)
  have hi5 := hi4'.only ho5 (fun k hk h => by
    obtain rfl : k = T := by simpa using h
    exact t3 hk)
  have hq5 := ho4'.only ho5 (fun k hk h => by
    obtain rfl : k = T := by simpa using h
    exact t2 hk)
  have how5 : Only (T :: F1) w _ := how4.trans ho5 (fun x hx => .inl (by simp at hx; simp [hx]))
  refine hN1 _ _ ?_
  conv => whnf
  refine VDraw.abs fun N2 hN2 => ?_
  refine VDraw.ahead 16 (fun w' => Blk w' w.heap.size 29 ⟨[.pointer (some ⟨T, 0, none⟩)]⟩) (fun w' => Blk w' T 103 ⟨natC cf now (.slice A1 k1 c1) (.slice A2 n2 c2) (.slice A3 n3 c3)⟩) [0, 1, 2, 3, 4, 5, 6, 8, 9, 10, 11, 12, 7, 13, 14, 15, 16, 17, 18, 19] (by kernel_rfl) (by kernel_rfl) hbn5.drew hb5.drew ?_
  conv => whnf
  refine ⟨_, fun w' hw' => Loads.one (by kernel_rfl) (hw'.1.at (i := 0) rfl), ?_⟩
  conv => whnf
  refine ⟨_, fun w' hw' => Loads.one (by kernel_rfl) (Blk.at (i := 0) hw' rfl), ?_⟩
  conv => whnf
  refine ⟨_, fun w' hw' => Loads.one (by kernel_rfl) (hw'.1.at (i := 0) rfl), ?_⟩
  conv => whnf
  refine ⟨_, fun w' hw' => Loads.one (by kernel_rfl) (hw'.2.ntO okc), ?_⟩
  conv => whnf
  refine ⟨_, fun w' hw' => Loads.one (by kernel_rfl) (Blk.at (i := 0) hw' rfl), ?_⟩
  conv => whnf
  refine ⟨_, fun w' hw' => Loads.one (by kernel_rfl) (hw'.2.ntI okc), ?_⟩
  conv => whnf
  refine (deleteNt_does (p := fun x => aged now x.from_ cf.hold) hq5.drew (fun x hx w' ho => agedN_does (hbt5.drew.only ho (m2 _ q2)) (hbn5.drew.only ho (m2 _ q1)) (hb5.drew.only ho t2) okc)).mono ?_
  rintro v w6 ⟨k2, rfl, hk2, hrow6, ho6⟩
  have hb6 := hb5.drew.only ho6 t2
  have hbn6 := hbn5.drew.only ho6 (m2 _ q1)
  have hbt6 := hbt5.drew.only ho6 (m2 _ q2)
  have hm6 := hm5.drew.only ho6 (fun k hk h => d12 k hk h)
  have hi6 := hi5.drew.only ho6 (fun k hk h => d23 k h hk)
  have how6 : Only (T :: (F1 ++ F2)) w w6 := (how5.drew.mono (G := T :: (F1 ++ F2)) (fun x hx => .inl (by simp at hx; rcases hx with hx | hx <;> simp [hx]))).trans ho6 (fun x hx => .inl (by simp [hx]))
  refine ⟨⟨hbn6, fun _ => hb6⟩, ?_⟩
  conv => whnf
  refine (deleteNt_does (p := fun x => aged now x.from_ cf.hold) hi6 (fun x hx w' ho => agedN_does (hbt6.only ho (m3 _ q2)) (hbn6.only ho (m3 _ q1)) (hb6.only ho t3) okc)).mono ?_
  rintro v w7 ⟨k3, rfl, hk3, hrow7, ho7⟩
  have hb7 := hb6.only ho7 t3
  have hbn7 := hbn6.only ho7 (m3 _ q1)
  have hm7 := hm6.only ho7 (fun k hk h => d13 k hk h)
  have hq7 := hrow6.only ho7 (fun k hk h => d23 k hk h)
  have how7 : Only (T :: (F1 ++ (F2 ++ F3))) w w7 := (how6.mono (G := T :: (F1 ++ (F2 ++ F3))) (fun x hx => .inl (by simp at hx; rcases hx with hx | hx | hx <;> simp [hx]))).trans ho7 (fun x hx => .inl (by simp [hx]))
  refine ⟨⟨hbn7, fun _ => hb7⟩, ?_⟩
  conv => whnf
  have nT : ∀ {F : List Nat}, T ∉ F → ∀ k ∈ F, k ∉ [T] := fun ht k hk h => by
    obtain rfl : k = T := by simpa using h
    exact ht hk
  refine vStore.one hb7 (by kernel_rfl) rfl (i := 43) (u := .slice A2 n2 c2) ((nat_tail okc 8).trans rfl) (fun hb8 ho8 => ?_)
  rw [natC_setO okc] at hb8
  have hbn8 := hbn7.only ho8 (mT _ q1)
  refine ⟨⟨hbn8, fun h => Bool.noConfusion h⟩, ?_⟩
  have hm8 := hm7.only ho8 (nT t1)
  have hq8 := hq7.only ho8 (nT t2)
  have hi8 := hrow7.only ho8 (nT t3)
  have how8 := how7.trans ho8 (fun x hx => .inl (by simp at hx; simp [hx]))
  conv => whnf
  refine vStore.one hb8 (by kernel_rfl) rfl (i := 44) (u := .slice A3 n3 c3) ((nat_tail okc 9).trans rfl) (fun hb9 ho9 => ?_)
  rw [natC_setI okc] at hb9
  refine ⟨⟨hbn8.only ho9 (mT _ q1), fun h => Bool.noConfusion h⟩, ?_⟩
  have how9 := how8.trans ho9 (fun x hx => .inl (by simp at hx; simp [hx]))
  refine hN2 _ _ ?_
  conv => whnf
  exact ⟨rfl, ⟨A1, k1, c1, F1, A2, k2, c2, F2, A3, k3, c3, F3, hb9, ⟨hm8.only ho9 (nT t1), hq8.only ho9 (nT t2), hi8.only ho9 (nT t3), d23⟩, rfl⟩, how9⟩
end Go.Proofs.YtofomopdaponbaaGreatDoor
/-
  A datagram in fragments is remembered (package nat: noted).
-/
namespace Go.Proofs.YtofomopdaponbaaGreatDoor
open Go.RowKit
set_option linter.unusedVariables false
set_option linter.unusedSimpArgs false

theorem cell_of_one {u : Value} (h : isOne u = true) : u.oneCell' = true := by
  cases u <;> first | rfl | (exact Bool.noConfusion h)
theorem one_ntCs (z : List Nt) : ∀ u ∈ z.flatMap ntC, u.oneCell' = true := by
  intro u hu
  obtain ⟨x, _, h⟩ := List.mem_flatMap.1 hu
  exact cell_of_one (one_ntC x u h)
theorem Sl.none_ {w : World} {size n : Nat} {G : List Nat} {xs : List Value} (h : Sl w size G none n xs) : n = 0 ∧ xs = [] := by
  rcases Nat.eq_zero_or_pos n with rfl | hn
  · exact ⟨rfl, List.eq_nil_of_length_eq_zero (by rw [h.1]; simp)⟩
  · obtain ⟨b, off, hA, -⟩ := h.some_ hn
    cases hA
set_option maxRecDepth 100000 in
theorem cloneNt_does {w : World} {G : List Nat} {A : Option Addr} {n c : Nat} {z : List Nt} (h : Sl w 55 G A n (z.flatMap ntC)) (hn : n ≤ 4294967296) :
    Does Tryz.prog 139 [.slice A n c] w (fun v w' => Own w w' 185 55 (z.flatMap ntC) v) := by
  refine Does.enter (fn := Tryz.f139) (by kernel_rfl) rfl (by kernel_rfl) (by kernel_rfl) ?_
  cases A with
  | none =>
    obtain ⟨rfl, e⟩ := h.none_
    rw [e]
    conv => whnf
    exact Own.nil _ _ _
  | some a =>
    conv => whnf
    have h2 := h.o ((Only.refl [] w).alloc (.cells ⟨[]⟩ 185))
    refine vFall.append 185 55 104 rfl (by kernel_rfl) rfl (Row.nil _ _ _ _) rfl h2 (one_ntCs z) (by omega) (by omega) ?_
    intro A' c' F' w' hr ho hF
    conv => whnf
    refine ⟨A', 0 + n, c', F', rfl, by simpa using hr, ((Only.refl [] w).alloc _).t0 ho, fun k hk => ?_⟩
    rcases hF k hk with h | h
    · cases h
    · simp at h; omega
/-- The notes behind a new one. -/
def notedL (parts now : Int) (z : List Nt) (k : Ky) (a : Ad) : List Nt :=
  let y := z.filter (fun x => !decide (x.key = k)) ++ [⟨k, a, now⟩]
  if (y.length : Int) > parts then y.drop 1 else y
theorem Sl.cast {w : World} {size n : Nat} {G : List Nat} {A : Option Addr} {xs ys : List Value} (h : Sl w size G A n xs) (hx : xs = ys) : Sl w size G A n ys := hx ▸ h
theorem drop_flat {α : Type} {enc : α → List Value} {size : Nat} (hlen : ∀ x, (enc x).length = size) : ∀ (z : List α) (i : Nat), (z.flatMap enc).drop (i * size) = (z.drop i).flatMap enc
  | z, 0 => by simp
  | [], i + 1 => by simp
  | x :: z, i + 1 => by
    rw [List.flatMap_cons, show (i + 1) * size = (enc x).length + i * size by rw [hlen, Nat.succ_mul]; omega, List.drop_append, List.drop_of_length_le (Nat.le_add_right _ _), List.nil_append, Nat.add_sub_cancel_left, List.drop_succ_cons]
    exact drop_flat hlen z i
set_option maxRecDepth 100000 in
theorem noted_does {w : World} {T : Nat} {t : TypeId} {cf : Cf} {now : Int} {M O I : Value} {F : List Nat} {A : Option Addr} {n c : Nat} {z : List Nt} {p : Pk} {P D : At} {a : Ad}
    (hb : Blk w T t ⟨natC cf now M O I⟩) (ok : okCf cf) (hz : Row w 185 55 F A n c (z.flatMap ntC)) (hT : T ∉ F) (hn : n ≤ 1000000) (hp : okPk p) (okk : okKy (kyP p)) (okz : ∀ x ∈ z, okKy x.key ∧ okAd x.addr) (oka : okAd a) :
    Does Tryz.prog 60 [.pointer (some ⟨T, 0, none⟩), .slice A n c, .agg ⟨pkC p P D⟩, .agg ⟨adC a⟩] w (fun v w' => ∃ A' n' c' F', v = .slice A' n' c' ∧ Row w' 185 55 F' A' n' c' ((notedL cf.parts now z (kyP p) a).flatMap ntC) ∧ Only F w w' ∧ ∀ k ∈ F', k ∈ F ∨ w.heap.size ≤ k) := by
  have hl := hz.sl.num ntC_len (by decide)
  have hA1 := Only.alloc (Only.refl [] w) (.cells ⟨pkC p P D⟩ 56)
  have hA2 := hA1.alloc (.cells ⟨adC a⟩ 24)
  have b6 := (Blk.new w 56 ⟨pkC p P D⟩).alloc (.cells ⟨adC a⟩ 24)
  have b7 := Blk.new (w.alloc (.cells ⟨pkC p P D⟩ 56)) 24 ⟨adC a⟩
  have s1 := World.size_alloc w (.cells ⟨pkC p P D⟩ 56)
  have hF := hz.lt
  have m1 : ∀ q, w.heap.size ≤ q → q ∉ F := fun q hq h => by have := hF _ h; omega
  have q1 : w.heap.size ≤ (w.alloc (.cells ⟨pkC p P D⟩ 56)).heap.size := by omega
  refine Does.enter (fn := Tryz.f60) (by kernel_rfl) rfl (by kernel_rfl) (by kernel_rfl) ?_
  conv => whnf
  refine ⟨_, b6.pkAll hp, ?_⟩
  conv => whnf
  refine (key_does hp).mono ?_
  rintro v w2 ⟨rfl, ho2⟩
  have how2 := hA2.t0 ho2
  have b62 := b6.only ho2 (by simp)
  have b72 := b7.only ho2 (by simp)
  have q2 : w.heap.size ≤ w2.heap.size := how2.size
  conv => whnf
  refine vStore.fresh (cs := kyC (kyP p)) (by rw [kyC_len]; kernel_rfl) (by rw [kyC_len]; rfl) (one_kyC _) (fun w3 b9 ho3 _ => ?_)
  have how3 := how2.t0 ho3
  have b73 := b72.only ho3 (by simp)
  have hz3 := hz.only how3 (by simp)
  have hb3 := hb.only how3 (by simp)
  conv => whnf
  refine (deleteNt_does (p := fun x => decide (x.key = kyP p)) hz3 (fun x hx w' ho => keyIs_does (b9.only ho (m1 _ q2)) okk (okz x hx).1)).mono ?_
  rintro v w4 ⟨k1, rfl, hk1, hrow4, ho4⟩
  have b94 := b9.only ho4 (m1 _ q2)
  have b74 := b73.only ho4 (m1 _ q1)
  have hb4 := hb3.only ho4 hT
  have how4 := how3.zf ho4
  conv => whnf
  refine VDraw.abs fun N1 hN1 => ?_
  refine VDraw.held (fun w' => Blk w' w2.heap.size 173 ⟨kyC (kyP p)⟩ ∧ Blk w' (w.alloc (.cells ⟨pkC p P D⟩ 56)).heap.size 24 ⟨adC a⟩ ∧ Blk w' T t ⟨natC cf now M O I⟩) [0, 1, 2, 3, 4, 5, 6, 7, 8, 9, 10] (by kernel_rfl) (by kernel_rfl) ⟨b94.drew, b74.drew, hb4.drew⟩ ?_
  conv => whnf
  refine ⟨_, fun w' hw' => Loads.all hw'.1 (by kernel_rfl) (by rw [kyC_len]; kernel_rfl), ?_⟩
  conv => whnf
  refine ⟨_, fun w' hw' => Loads.all hw'.2.1 (by kernel_rfl) (by rw [adC_len oka]; kernel_rfl), ?_⟩
  conv => whnf
  refine ⟨_, fun w' hw' => Loads.one (by kernel_rfl) (hw'.2.2.ntNow ok), ?_⟩
  conv => whnf
  refine lenIs.of (Nat.succ.inj (Nat.succ.inj (kyC_len (kyP p)))) ?_
  conv => whnf
  refine lenIs.of (by rw [List.length_map]; exact oka.2.2) ?_
  conv => whnf
  have ex : (kyC (kyP p) ++ (adC a ++ [Value.int .i64 now])) ++ [] = ntC ⟨kyP p, a, now⟩ := by simp [ntC, adP_id oka]
  have e55 : ((kyC (kyP p) ++ (adC a ++ [Value.int .i64 now])) ++ []).length = 55 := by rw [ex, ntC_len]
  have e56 : (kyC (kyP p) ++ (adC a ++ [Value.int .i64 now])).length = 55 := by rw [← e55]; simp
  refine lenIs.of (Nat.succ.inj (Nat.succ.inj e56)) ?_
  conv => whnf
  refine ⟨⟨b94.drew.alloc _, b74.drew.alloc _, hb4.drew.alloc _⟩, ?_⟩
  conv => whnf
  refine vFall.append 185 55 104 rfl (by kernel_rfl) rfl (hrow4.drew.alloc _) rfl (Sl.new w4.drew 185 55 ((kyC (kyP p) ++ (adC a ++ [Value.int .i64 now])) ++ []) 1 e55) (by rw [ex]; exact fun u hu => cell_of_one (one_ntC _ u hu)) (by omega) (by omega) ?_
  intro A5 c5 F5 w5 hr5 ho5 hF5
  have hal := (Only.refl [] w4.drew).alloc (.cells ⟨(kyC (kyP p) ++ (adC a ++ [Value.int .i64 now])) ++ []⟩ 185)
  have hoA : Only F w4.drew w5 := hal.zf ho5
  have how5 : Only F w w5 := how4.drew.ff hoA
  have hb5 := hb4.drew.only hoA hT
  refine ⟨⟨b94.drew.only hoA (m1 _ q2), b74.drew.only hoA (m1 _ q1), hb5⟩, ?_⟩
  have hr5' := hr5.cast (ys := (z.filter (fun x => !decide (x.key = kyP p)) ++ [(⟨kyP p, a, now⟩ : Nt)]).flatMap ntC) (by rw [ex]; simp)
  generalize hy : z.filter (fun x => !decide (x.key = kyP p)) ++ [(⟨kyP p, a, now⟩ : Nt)] = y at hr5'
  have hyl : y.length = k1 + 1 := hr5'.sl.num ntC_len (by decide)
  have hF5' : ∀ k ∈ F5, k ∈ F ∨ w.heap.size ≤ k := fun k hk => by
    rcases hF5 k hk with h | h
    · exact .inl h
    · exact .inr (Nat.le_trans (how4.drew.f0 ((Only.refl [] w4.drew).alloc _)).size h)
  conv => whnf
  refine hN1 _ _ ?_
  conv => whnf
  refine VJoin.go (by kernel_rfl) ?_
  conv => whnf
  refine ⟨_, Loads.one (by kernel_rfl) (hb5.ntParts ok), ?_⟩
  conv => whnf
  have hres : notedL cf.parts now z (kyP p) a = if (y.length : Int) > cf.parts then y.drop 1 else y := by rw [← hy]; rfl
  refine VIf.dec (fun ht => ?_) (fun ht => ?_)
  · have ht : ((k1 + 1 : Nat) : Int) > cf.parts := ht
    conv => whnf
    refine ⟨1, k1 + 1, c5, rfl, rfl, rfl, by omega, (by have := hr5'.le.1; omega), by omega, if c5 = 1 then A5 else A5.map (·.add (1 * 55)), k1 + 1 - 1, c5 - 1, rfl, rfl, rfl, ?_⟩
    conv => whnf
    refine (cloneNt_does (z := y.drop 1) ((hr5'.sl.cut (l := 1) (h := k1 + 1) (m := c5) (by omega) hr5'.le.1 (Nat.le_refl _) rfl).cast ?_) (by omega)).mono ?_
    · rw [drop_flat ntC_len, List.take_of_length_le]
      rw [flat_len ntC_len, List.length_drop]
      omega
    rintro v w6 ⟨A6, n6, c6, F6, rfl, hr6, ho6, hF6⟩
    conv => whnf
    refine ⟨A6, n6, c6, F6, rfl, ?_, how5.f0 ho6, fun k hk => .inr (Nat.le_trans how5.size (hF6 k hk))⟩
    rw [hres, if_pos (by omega)]
    exact hr6
  · have ht : ¬ ((k1 + 1 : Nat) : Int) > cf.parts := ht
    conv => whnf
    refine ⟨A5, k1 + 1, c5, F5, rfl, ?_, how5, hF5'⟩
    rw [hres, if_neg (by omega)]
    exact hr5'
end Go.Proofs.YtofomopdaponbaaGreatDoor
/-
  An inside end's mapping, made if need be (package nat: mapped).
-/
namespace Go.Proofs.YtofomopdaponbaaGreatDoor
open Go.RowKit
set_option linter.unusedVariables false
set_option linter.unusedSimpArgs false

theorem idxI_bd {α : Type} (p : α → Bool) (z : List α) : -1 ≤ idxI p z ∧ idxI p z < z.length ∨ idxI p z = -1 := by
  unfold idxI
  split
  · rename_i i hi
    have := (List.findIdx?_eq_some_iff_getElem.1 hi).1
    exact .inl (by omega)
  · exact .inr rfl
/-- The first free port, of n from here. -/
def freeFrom (z : List Nm) : Int → Nat → Option Int
  | _, 0 => none
  | out, n + 1 => if idxI (fun m : Nm => m.out == out) z < 0 then some out else freeFrom z (out + 1) n
def mappedS (s : NatS) (a : Ad) (port : Int) : Int × List Nm :=
  if idxI (endIs a port) s.maps ≥ 0 then (idxI (endIs a port) s.maps, s.maps)
  else if (s.maps.length : Int) ≥ s.cf.maps then (-1, s.maps)
  else match freeFrom s.maps s.cf.first (s.cf.last + 1 - s.cf.first).toNat with
    | some out => ((s.maps.length : Int), s.maps ++ [⟨a, port, out, 0⟩])
    | none => (-1, s.maps)
theorem one_nmCs (z : List Nm) : ∀ u ∈ z.flatMap nmC, u.oneCell' = true := by
  intro u hu
  obtain ⟨x, _, h⟩ := List.mem_flatMap.1 hu
  exact cell_of_one (one_nmC x u h)
set_option maxRecDepth 100000 in
theorem mapped_does {w : World} {T : Nat} {s : NatS} {F : List Nat} {a : Ad} {port : Int} (h : St w T s F) (ok : okS s) (oka : okAd a) :
    Does Tryz.prog 63 [.pointer (some ⟨T, 0, none⟩), .agg ⟨adC a⟩, .int .i64 port] w (fun v w' => v = .int .i64 (mappedS s a port).1 ∧ ∃ F', St w' T ⟨s.cf, s.now, (mappedS s a port).2, s.outs, s.ins⟩ F' ∧ Only F w w' ∧ ∀ k ∈ F', k ∈ F ∨ w.heap.size ≤ k) := by
  obtain ⟨cf, now, maps, outs, ins⟩ := s
  obtain ⟨A1, n1, c1, F1, A2, n2, c2, F2, A3, n3, c3, F3, hb, hr, rfl⟩ := h
  have okc : okCf cf := ok.cf
  have hl := hr.m.sl.num nmC_len (by decide)
  have hnm : (maps.length : Int) ≤ cf.maps := ok.nmaps
  have hcm : cf.maps ≤ 256 := ok.cmaps
  have hfi : 1 ≤ cf.first := ok.first
  have hla : cf.last ≤ 65535 := ok.last
  dsimp only at hb hl
  have hA := Only.alloc (Only.refl [] w) (.cells ⟨adC a⟩ 24)
  have b4 := Blk.new w 24 ⟨adC a⟩
  have t1 : T ∉ F1 := hr.m.ne_blk hb (by decide)
  have same : ∀ w', Only [] w w' → ∃ F', St w' T ⟨cf, now, maps, outs, ins⟩ F' ∧ Only (T :: (F1 ++ (F2 ++ F3))) w w' ∧ ∀ k ∈ F', k ∈ T :: (F1 ++ (F2 ++ F3)) ∨ w.heap.size ≤ k := fun w' ho =>
    ⟨_, ⟨A1, n1, c1, F1, A2, n2, c2, F2, A3, n3, c3, F3, hb.only ho (by simp), hr.only ho (by simp), rfl⟩, ho.up, fun k hk => .inl hk⟩
  have hm0 : mappedS ⟨cf, now, maps, outs, ins⟩ a port = if idxI (endIs a port) maps ≥ 0 then (idxI (endIs a port) maps, maps)
    else if (maps.length : Int) ≥ cf.maps then (-1, maps)
    else match freeFrom maps cf.first (cf.last + 1 - cf.first).toNat with
      | some out => ((maps.length : Int), maps ++ [⟨a, port, out, 0⟩])
      | none => (-1, maps) := rfl
  refine Does.enter (fn := Tryz.f63) (by kernel_rfl) rfl (by kernel_rfl) (by kernel_rfl) ?_
  conv => whnf
  refine ⟨_, Loads.all b4 (by kernel_rfl) (by rw [adC_len oka]; kernel_rfl), ?_⟩
  conv => whnf
  refine (ofEnd_does (hb.only hA (by simp)) okc oka (hr.m.sl.o hA) ok.maps (by omega)).mono ?_
  rintro v w2 ⟨rfl, ho2⟩
  have how2 := hA.t0 ho2
  have b42 := b4.only ho2 (by simp)
  have hb2 := hb.only how2 (by simp)
  have hr2 := hr.only how2 (by simp)
  conv => whnf
  refine VIf.dec (fun h1 => ?_) (fun h1 => ?_)
  · conv => whnf
    rw [hm0, if_pos h1]
    exact ⟨rfl, same _ how2⟩
  rw [if_neg h1] at hm0
  conv => whnf
  refine VDraw.abs fun N1 hN1 => ?_
  refine VDraw.q (by kernel_rfl) (by kernel_rfl) ?_
  conv => whnf
  refine ⟨_, fun w' hw' => Loads.one (by kernel_rfl) ((hb2.only hw' (by simp)).ntM okc), ?_⟩
  conv => whnf
  refine ⟨_, fun w' hw' => Loads.one (by kernel_rfl) ((hb2.only hw' (by simp)).ntMaps okc), ?_⟩
  conv => whnf
  intro w3 ho3
  have how3 := how2.t0 ho3
  have b43 := b42.only ho3 (by simp)
  have hb3 := hb2.only ho3 (by simp)
  have hr3 := hr2.only ho3 (by simp)
  conv => whnf
  refine hN1 _ _ ?_
  conv => whnf
  refine VIf.dec (fun h2 => ?_) (fun h2 => ?_)
  · have h2 : (n1 : Int) ≥ cf.maps := h2
    conv => whnf
    rw [hm0, if_pos (by omega)]
    exact ⟨rfl, same _ how3⟩
  have h2 : ¬ (n1 : Int) ≥ cf.maps := h2
  rw [if_neg (by omega)] at hm0
  conv => whnf
  refine ⟨_, Loads.one (by kernel_rfl) (hb3.ntFirst okc), ?_⟩
  conv => whnf
  generalize hN : (cf.last + 1 - cf.first).toNat = N at hm0
  refine VLoop.inv (α := Nat) [(6, 7), (8, 9), (32, 64)] (fun k => [(8, .int .i64 (cf.first + (k : Nat)))]) (fun k w' => Only [] w3 w' ∧ k ≤ N ∧ freeFrom maps cf.first N = freeFrom maps (cf.first + (k : Nat)) (N - k)) (fun k => N - k) 0 (by kernel_rfl) ⟨congrArg (Value.int IntKind.i64) (by omega), trivial⟩ ⟨Only.refl _ _, Nat.zero_le _, by simp⟩ ?_
  rintro k wr j ⟨ho, hk, hfree⟩
  have howr := how3.t0 ho
  have b4r := b43.only ho (by simp)
  have hbr := hb3.only ho (by simp)
  have hrr := hr3.only ho (by simp)
  conv => whnf
  refine ⟨_, Loads.one (by kernel_rfl) (hbr.ntLast okc), ?_⟩
  conv => whnf
  refine VIf.dec (fun h3 => ?_) (fun h3 => ?_)
  rotate_left
  · conv => whnf
    have e0 : N - k = 0 := by omega
    rw [hm0, hfree, e0]
    exact ⟨rfl, same _ howr⟩
  have e1 : N - k = (N - (k + 1)) + 1 := by omega
  rw [e1, show freeFrom maps (cf.first + (k : Nat)) (N - (k + 1) + 1) = (if idxI (fun m : Nm => m.out == cf.first + (k : Nat)) maps < 0 then some (cf.first + (k : Nat)) else freeFrom maps (cf.first + (k : Nat) + 1) (N - (k + 1))) from rfl] at hfree
  conv => whnf
  refine (ofPort_does hbr okc hrr.m.sl (by omega)).mono ?_
  rintro v w4 ⟨rfl, ho4⟩
  have how4 := howr.t0 ho4
  have b44 := b4r.only ho4 (by simp)
  have hb4 := hbr.only ho4 (by simp)
  have hr4 := hrr.only ho4 (by simp)
  conv => whnf
  refine VIf.dec (fun h4 => ?_) (fun h4 => ?_)
  rotate_left
  · conv => whnf
    have e2 : IntKind.i64.wrap (cf.first + (k : Nat) + 1) = cf.first + ((k + 1 : Nat) : Int) := by rw [wi64]; omega
    refine ⟨k + 1, ⟨congrArg (Value.int IntKind.i64) e2, trivial⟩, ⟨ho.t0 ho4, by omega, ?_⟩, by omega⟩
    rw [if_neg h4] at hfree
    rw [hfree]
    congr 1
    omega
  rw [if_pos h4] at hfree
  rw [hfree] at hm0
  conv => whnf
  refine VDraw.abs fun N2 hN2 => ?_
  refine VDraw.ahead 13 (fun w' => True) (fun w' => Blk w' T 103 ⟨natC cf now (.slice A1 n1 c1) (.slice A2 n2 c2) (.slice A3 n3 c3)⟩ ∧ Blk w' w.heap.size 24 ⟨adC a⟩) [0, 1, 2, 3, 4, 5, 6, 7, 8, 9, 10, 11, 12, 13] (by kernel_rfl) (by kernel_rfl) trivial ⟨hb4.drew, b44.drew⟩ ?_
  conv => whnf
  refine ⟨_, fun w' hw' => Loads.one (by kernel_rfl) (hw'.2.1.ntM okc), ?_⟩
  conv => whnf
  refine ⟨_, fun w' hw' => Loads.all hw'.2.2 (by kernel_rfl) (by rw [adC_len oka]; kernel_rfl), ?_⟩
  conv => whnf
  refine lenIs.of (by rw [List.length_map]; exact oka.2.2) ?_
  conv => whnf
  have ex : (adC a ++ [Value.int .i64 port, .int .i64 (cf.first + (k : Nat)), .int .i64 0]) ++ [] = nmC ⟨a, port, cf.first + (k : Nat), 0⟩ := by simp [nmC, adP_id oka]
  have e55 : ((adC a ++ [Value.int .i64 port, .int .i64 (cf.first + (k : Nat)), .int .i64 0]) ++ []).length = 20 := by rw [ex, nmC_len]
  have e56 : (adC a ++ [Value.int .i64 port, .int .i64 (cf.first + (k : Nat)), .int .i64 0]).length = 20 := by rw [← e55]; simp
  refine lenIs.of (Nat.succ.inj e56) ?_
  conv => whnf
  refine ⟨⟨trivial, fun _ => ⟨hb4.drew.alloc _, b44.drew.alloc _⟩⟩, ?_⟩
  conv => whnf
  refine vFall.append 48 20 48 rfl (by kernel_rfl) rfl (hr4.m.drew.alloc _) rfl (Sl.new w4.drew 48 20 ((adC a ++ [Value.int .i64 port, .int .i64 (cf.first + (k : Nat)), .int .i64 0]) ++ []) 1 e55) (by rw [ex]; exact fun u hu => cell_of_one (one_nmC _ u hu)) (by omega) (by omega) ?_
  intro A5 c5 F5 w5 hr5 ho5 hF5
  have hal := (Only.refl [] w4.drew).alloc (.cells ⟨(adC a ++ [Value.int .i64 port, .int .i64 (cf.first + (k : Nat)), .int .i64 0]) ++ []⟩ 48)
  have hoA : Only F1 w4.drew w5 := hal.zf ho5
  have how5 : Only F1 w w5 := how4.drew.up.ff hoA
  have hb5 := hb4.drew.only hoA t1
  have b45 := b44.drew.only hoA (fun hm => by have := hr.m.lt _ hm; omega)
  refine ⟨⟨trivial, fun _ => ⟨hb5, b45⟩⟩, ?_⟩
  have hr5' := hr5.cast (ys := (maps ++ [(⟨a, port, cf.first + (k : Nat), 0⟩ : Nm)]).flatMap nmC) (by rw [ex]; simp)
  have hF5' : ∀ k ∈ F5, k ∈ F1 ∨ w.heap.size ≤ k := fun k hk => by
    rcases hF5 k hk with h | h
    · exact .inl h
    · exact .inr (Nat.le_trans (how4.drew.t0 hal).size h)
  have ho5m := hr4.o.drew.only hoA (fun k hk h => (hr.m.ne_row hr.o (by decide)) k h hk)
  have hi5m := hr4.i.drew.only hoA (fun k hk h => (hr.m.ne_row hr.i (by decide)) k h hk)
  conv => whnf
  refine vStore.one hb5 (by kernel_rfl) rfl (i := 42) (u := .slice A1 n1 c1) ((nat_tail okc 7).trans rfl) (fun hb6 ho6 => ?_)
  rw [natC_setM okc] at hb6
  refine ⟨⟨trivial, fun h => Bool.noConfusion h⟩, ?_⟩
  have nT : ∀ {F : List Nat}, T ∉ F → ∀ k ∈ F, k ∉ [T] := fun ht k hk h => by
    obtain rfl : k = T := by simpa using h
    exact ht hk
  have t5 : T ∉ F5 := hr5'.ne_blk hb5 (by decide)
  have hm6 := hr5'.only ho6 (nT t5)
  have ho6m := ho5m.only ho6 (nT (hr.o.ne_blk hb (by decide)))
  have hi6m := hi5m.only ho6 (nT (hr.i.ne_blk hb (by decide)))
  have how6 : Only (T :: (F1 ++ (F2 ++ F3))) w _ := (how5.mono (G := T :: (F1 ++ (F2 ++ F3))) (fun x hx => .inl (by simp [hx]))).trans ho6 (fun x hx => .inl (by simp at hx; simp [hx]))
  refine hN2 _ _ ?_
  conv => whnf
  refine ⟨_, Loads.one (by kernel_rfl) (hb6.ntM okc), ?_⟩
  conv => whnf
  rw [hm0]
  have e7 : IntKind.i64.wrap (((n1 + 1 : Nat) : Int) - 1) = (maps.length : Int) := by rw [wi64]; omega
  refine ⟨congrArg (Value.int IntKind.i64) e7, T :: (F5 ++ (F2 ++ F3)), ⟨A5, n1 + 1, c5, F5, A2, n2, c2, F2, A3, n3, c3, F3, hb6, ⟨hm6, ho6m, hi6m, hr.d⟩, rfl⟩, how6, ?_⟩
  intro k hk
  simp only [List.mem_cons, List.mem_append] at hk ⊢
  rcases hk with hk | hk | hk | hk
  · exact .inl (.inl hk)
  · rcases hF5' k hk with h | h
    · exact .inl (.inr (.inl h))
    · exact .inr h
  · exact .inl (.inr (.inr (.inl hk)))
  · exact .inl (.inr (.inr (.inr hk)))
end Go.Proofs.YtofomopdaponbaaGreatDoor
