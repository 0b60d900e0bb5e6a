/-
  The state of a Nat in memory; time goes by (package nat: passes).
-/
import Derived.Test.YtofomopdaponbaaGreatDoorNps
import Derived.Test.YtofomopdaponbaaGreatDoorHe
namespace Go.Proofs.YtofomopdaponbaaGreatDoor
open Go.RowKit
set_option linter.unusedVariables false
set_option linter.unusedSimpArgs false

/-- Two rows of different element types lie in different blocks. -/
theorem Row.ne_row {w : World} {e e' size size' n n' c c' : Nat} {F F' : List Nat} {A A' : Option Addr} {xs xs' : List Value} (h : Row w e size F A n c xs) (h' : Row w e' size' F' A' n' c' xs') (hne : e ≠ e') : ∀ k ∈ F, k ∉ F' := by
  rcases h' with ⟨rfl, _⟩ | ⟨g, rfl, _, h'⟩
  · simp
  · intro k hk hm
    obtain rfl : k = g := by simpa using hm
    rcases h'.2 with ⟨h', _⟩ | ⟨g', cap, cur, hv, _, hh, _⟩
    · cases h'
    · injection hv with h1
      injection h1 with h1
      injection h1 with h1
      subst h1
      exact h.ne_blk (q := k) (t := e') hh hne hk
structure NatS where
  cf : Cf
  now : Int
  maps : List Nm
  outs : List Nt
  ins : List Nt
structure okS (s : NatS) : Prop where
  cf : okCf s.cf
  first : 1 ≤ s.cf.first
  last : s.cf.last ≤ 65535
  cmaps : s.cf.maps ≤ 256
  cparts : 1 ≤ s.cf.parts ∧ s.cf.parts ≤ 64
  nmaps : (s.maps.length : Int) ≤ s.cf.maps
  nouts : (s.outs.length : Int) ≤ s.cf.parts
  nins : (s.ins.length : Int) ≤ s.cf.parts
  maps : ∀ m ∈ s.maps, okAd m.addr
  outs : ∀ x ∈ s.outs, okKy x.key ∧ okAd x.addr
  ins : ∀ x ∈ s.ins, okKy x.key ∧ okAd x.addr
/-- The three rows of a Nat. -/
structure Rws (w : World) (s : NatS) (A1 : Option Addr) (n1 c1 : Nat) (F1 : List Nat) (A2 : Option Addr) (n2 c2 : Nat) (F2 : List Nat) (A3 : Option Addr) (n3 c3 : Nat) (F3 : List Nat) : Prop where
  m : Row w 48 20 F1 A1 n1 c1 (s.maps.flatMap nmC)
  o : Row w 185 55 F2 A2 n2 c2 (s.outs.flatMap ntC)
  i : Row w 185 55 F3 A3 n3 c3 (s.ins.flatMap ntC)
  d : ∀ k ∈ F2, k ∉ F3
/-- A Nat lies at T in the state s; its blocks are F. -/
def St (w : World) (T : Nat) (s : NatS) (F : List Nat) : Prop :=
  ∃ A1 n1 c1 F1 A2 n2 c2 F2 A3 n3 c3 F3, Blk w T 103 ⟨natC s.cf s.now (.slice A1 n1 c1) (.slice A2 n2 c2) (.slice A3 n3 c3)⟩ ∧ Rws w s A1 n1 c1 F1 A2 n2 c2 F2 A3 n3 c3 F3 ∧ F = T :: (F1 ++ (F2 ++ F3))
theorem Rws.only {w w' : World} {s : NatS} {A1 A2 A3 : Option Addr} {n1 c1 n2 c2 n3 c3 : Nat} {F1 F2 F3 G : List Nat} (h : Rws w s A1 n1 c1 F1 A2 n2 c2 F2 A3 n3 c3 F3) (ho : Only G w w') (hd : ∀ k ∈ F1 ++ (F2 ++ F3), k ∉ G) : Rws w' s A1 n1 c1 F1 A2 n2 c2 F2 A3 n3 c3 F3 :=
  ⟨h.m.only ho (fun k hk => hd k (by simp [hk])), h.o.only ho (fun k hk => hd k (by simp [hk])), h.i.only ho (fun k hk => hd k (by simp [hk])), h.d⟩
theorem St.only {w w' : World} {T : Nat} {s : NatS} {F G : List Nat} (h : St w T s F) (ho : Only G w w') (hd : ∀ k ∈ F, k ∉ G) : St w' T s F := by
  obtain ⟨A1, n1, c1, F1, A2, n2, c2, F2, A3, n3, c3, F3, hb, hr, rfl⟩ := h
  exact ⟨A1, n1, c1, F1, A2, n2, c2, F2, A3, n3, c3, F3, hb.only ho (hd _ (by simp)), hr.only ho (fun k hk => hd k (List.mem_cons_of_mem _ hk)), rfl⟩
theorem St.o {w w' : World} {T : Nat} {s : NatS} {F : List Nat} (h : St w T s F) (ho : Only [] w w') : St w' T s F := h.only ho (by simp)
theorem St.lt {w : World} {T : Nat} {s : NatS} {F : List Nat} (h : St w T s F) : ∀ k ∈ F, k < w.heap.size := by
  obtain ⟨A1, n1, c1, F1, A2, n2, c2, F2, A3, n3, c3, F3, hb, hr, rfl⟩ := h
  intro k hk
  simp only [List.mem_cons, List.mem_append] at hk
  rcases hk with rfl | hk | hk | hk
  · exact hb.lt
  · exact hr.m.lt k hk
  · exact hr.o.lt k hk
  · exact hr.i.lt k hk
section
variable {c : Cf} {now : Int} {M O I v : Value}
theorem natC_set (ok : okCf c) (j : Nat) : (natC c now M O I).set (35 + j) v = adC c.net ++ (.int .i64 c.bits :: (adC c.outside ++ (cfT c ++ [.int .i64 now, M, O, I]).set j v)) := by
  have e1 := adC_len ok.net
  have e2 := adC_len ok.outside
  unfold natC
  rw [List.set_append_right _ _ (by omega), e1, show 35 + j - 17 = (17 + j) + 1 by omega, List.set_cons_succ, List.set_append_right _ _ (by omega), e2, show 17 + j - 17 = j by omega]
theorem natC_setNow (ok : okCf c) (x : Int) : (natC c now M O I).set 41 (.int .i64 x) = natC c x M O I := natC_set ok 6
theorem natC_setM (ok : okCf c) : (natC c now M O I).set 42 v = natC c now v O I := natC_set ok 7
theorem natC_setO (ok : okCf c) : (natC c now M O I).set 43 v = natC c now M v I := natC_set ok 8
theorem natC_setI (ok : okCf c) : (natC c now M O I).set 44 v = natC c now M O v := natC_set ok 9
end
def passesS (s : NatS) (now : Int) : Bool × NatS :=
  if betweenI now s.now 1099511627776 = true then (true, ⟨s.cf, now, s.maps.filter (fun m => !aged now m.used s.cf.life), s.outs.filter (fun x => !aged now x.from_ s.cf.hold), s.ins.filter (fun x => !aged now x.from_ s.cf.hold)⟩)
  else (false, s)
theorem passes_ok {s : NatS} (h : okS s) (now : Int) : okS (passesS s now).2 := by
  unfold passesS
  split
  · exact ⟨h.cf, h.first, h.last, h.cmaps, h.cparts, Int.le_trans (Int.ofNat_le.2 (List.length_filter_le _ _)) h.nmaps, Int.le_trans (Int.ofNat_le.2 (List.length_filter_le _ _)) h.nouts, Int.le_trans (Int.ofNat_le.2 (List.length_filter_le _ _)) h.nins, fun m hm => h.maps m ((List.mem_filter.1 hm).1), fun m hm => h.outs m ((List.mem_filter.1 hm).1), fun m hm => h.ins m ((List.mem_filter.1 hm).1)⟩
  · exact h
set_option maxRecDepth 100000 in
theorem passes_does {w : World} {T : Nat} {s : NatS} {F : List Nat} {now : Int} (h : St w T s F) (ok : okS s) :
    Does Tryz.prog 125 [.pointer (some ⟨T, 0, none⟩), .int .i64 now] w (fun v w' => v = .bool (passesS s now).1 ∧ St w' T (passesS s now).2 F ∧ Only F w w') := by
  obtain ⟨cf, now0, maps, outs, ins⟩ := s
  obtain ⟨A1, n1, c1, F1, A2, n2, c2, F2, A3, n3, c3, F3, hb, hr, rfl⟩ := h
  have okc : okCf cf := ok.cf
  dsimp only at hb
  have hA1 := Only.alloc (Only.refl [] w) (.cells ⟨[.pointer (some ⟨T, 0, none⟩)]⟩ 29)
  have hA := hA1.alloc (.cells ⟨[.int .i64 now]⟩ 2)
  have hbn := (Blk.new w 29 ⟨[.pointer (some ⟨T, 0, none⟩)]⟩).alloc (.cells ⟨[.int .i64 now]⟩ 2)
  have hbt := Blk.new (w.alloc (.cells ⟨[.pointer (some ⟨T, 0, none⟩)]⟩ 29)) 2 ⟨[.int .i64 now]⟩
  refine Does.enter (fn := Tryz.f125) (by kernel_rfl) rfl (by kernel_rfl) (by kernel_rfl) ?_
  conv => whnf
  refine VDraw.abs fun N0 hN => ?_
  refine VDraw.q (by kernel_rfl) (by kernel_rfl) ?_
  conv => whnf
  refine ⟨_, fun w' hw' => Loads.one (by kernel_rfl) ((hbt.only hw' (by simp)).at (i := 0) rfl), ?_⟩
  conv => whnf
  refine ⟨_, fun w' hw' => Loads.one (by kernel_rfl) ((hbn.only hw' (by simp)).at (i := 0) rfl), ?_⟩
  conv => whnf
  refine ⟨_, fun w' hw' => Loads.one (by kernel_rfl) ((hb.only (hA.t0 hw') (by simp)).ntNow okc), ?_⟩
  conv => whnf
  refine ⟨_, fun w' hw' => between_does.mono (fun v w2 e => ⟨e.1, e.2 ▸ hw'⟩), ?_⟩
  conv => whnf
  intro w2 ho2
  conv => whnf
  refine hN _ _ ?_
  have how2 := hA.t0 ho2
  conv => whnf
  refine VIf.not (VIf.of (b := betweenI now now0 1099511627776) (fun e => ?_) (fun e => ?_))
  rotate_left
  · conv => whnf
    simp only [passesS, e]
    exact ⟨rfl, ⟨A1, n1, c1, F1, A2, n2, c2, F2, A3, n3, c3, F3, hb.only how2 (by simp), hr.only how2 (by simp), rfl⟩, how2.up⟩
  simp only [passesS, e, if_true]
  have hbn2 := hbn.only ho2 (by simp)
  have hbt2 := hbt.only ho2 (by simp)
  have hb2 := hb.only how2 (by simp)
  have hr2 := hr.only how2 (by simp)
  have sz1 := World.size_alloc w (.cells ⟨[.pointer (some ⟨T, 0, none⟩)]⟩ 29)
  have hTl : T < w.heap.size := hb.lt
  have t1 : T ∉ F1 := hr.m.ne_blk hb (by decide)
  have t2 : T ∉ F2 := hr.o.ne_blk hb (by decide)
  have t3 : T ∉ F3 := hr.i.ne_blk hb (by decide)
  have d12 := hr.m.ne_row hr.o (by decide)
  have d13 := hr.m.ne_row hr.i (by decide)
  have d23 := hr.d
  have m1 : ∀ q, w.heap.size ≤ q → q ∉ F1 := fun q hq h => by have := hr.m.lt _ h; omega
  have m2 : ∀ q, w.heap.size ≤ q → q ∉ F2 := fun q hq h => by have := hr.o.lt _ h; omega
  have m3 : ∀ q, w.heap.size ≤ q → q ∉ F3 := fun q hq h => by have := hr.i.lt _ h; omega
  have mT : ∀ q, w.heap.size ≤ q → q ∉ [T] := fun q hq h => by
    have : q = T := by simpa using h
    omega
  have q1 : w.heap.size ≤ w.heap.size := Nat.le_refl _
  have q2 : w.heap.size ≤ (w.alloc (.cells ⟨[.pointer (some ⟨T, 0, none⟩)]⟩ 29)).heap.size := by omega
  conv => whnf
  refine ⟨_, Loads.one (by kernel_rfl) (hbn2.at (i := 0) rfl), ?_⟩
  conv => whnf
  refine ⟨_, Loads.one (by kernel_rfl) (hbt2.at (i := 0) rfl), ?_⟩
  conv => whnf
  refine vStore.one hb2 (by kernel_rfl) rfl (i := 41) (u := .int .i64 now0) ((nat_tail okc 6).trans rfl) (fun hb3 ho3 => ?_)
  rw [natC_setNow okc] at hb3
  have hbn3 := hbn2.only ho3 (mT _ q1)
  have hbt3 := hbt2.only ho3 (mT _ q2)
  have hr3 := hr2.only ho3 (fun k hk h => by
    obtain rfl : k = T := by simpa using h
    simp [t1, t2, t3] at hk)
  have how3 : Only [T] w _ := how2.zf ho3
  conv => whnf
  refine VDraw.abs fun N1 hN1 => ?_
  refine VDraw.ahead 9 (fun w' => Blk w' w.heap.size 29 ⟨[.pointer (some ⟨T, 0, none⟩)]⟩) (fun w' => Blk w' T 103 ⟨natC cf now (.slice A1 n1 c1) (.slice A2 n2 c2) (.slice A3 n3 c3)⟩) [0, 1, 2, 3, 4, 5, 6, 7, 8, 9] (by kernel_rfl) (by kernel_rfl) hbn3.drew hb3.drew ?_
  conv => whnf
  refine ⟨_, fun w' hw' => Loads.one (by kernel_rfl) (hw'.1.at (i := 0) rfl), ?_⟩
  conv => whnf
  refine ⟨_, fun w' hw' => Loads.one (by kernel_rfl) (hw'.1.at (i := 0) rfl), ?_⟩
  conv => whnf
  refine ⟨_, fun w' hw' => Loads.one (by kernel_rfl) (hw'.2.ntM okc), ?_⟩
  conv => whnf
  refine (deleteNm_does (p := fun m => aged now m.used cf.life) hr3.m.drew (fun x hx w' ho => agedM_does (hbt3.drew.only ho (m1 _ q2)) (hbn3.drew.only ho (m1 _ q1)) (hb3.drew.only ho t1) okc)).mono ?_
  rintro v w4 ⟨k1, rfl, hk1, hrow4, ho4⟩
  have hb4 := hb3.drew.only ho4 t1
  have hbn4 := hbn3.drew.only ho4 (m1 _ q1)
  have hbt4 := hbt3.drew.only ho4 (m1 _ q2)
  have ho4' := hr3.o.drew.only ho4 (fun k hk h => d12 k h hk)
  have hi4' := hr3.i.drew.only ho4 (fun k hk h => d13 k h hk)
  have how4 : Only (T :: F1) w w4 := (how3.drew.mono (G := T :: F1) (fun x hx => .inl (by simp at hx; simp [hx]))).trans ho4 (fun x hx => .inl (by simp [hx]))
  refine ⟨⟨hbn4, fun _ => hb4⟩, ?_⟩
  conv => whnf
  refine vStore.one hb4 (by kernel_rfl) rfl (i := 42) (u := .slice A1 n1 c1) ((nat_tail okc 7).trans rfl) (fun hb5 ho5 => ?_)
  rw [natC_setM okc] at hb5
  have hbn5 := hbn4.only ho5 (mT _ q1)
  have hbt5 := hbt4.only ho5 (mT _ q2)
  refine ⟨⟨hbn5, fun h => Bool.noConfusion h⟩, ?_⟩
  have hm5 := hrow4.only ho5 (fun k hk h => by
    obtain rfl : k = T := by simpa using h
    exact t1 hk)
  have hi5 := hi4'.only ho5 (fun k hk h => by
    obtain rfl : k = T := by simpa using h
    exact t3 hk)
  have hq5 := ho4'.only ho5 (fun k hk h => by
    obtain rfl : k = T := by simpa using h
    exact t2 hk)
  have how5 : Only (T :: F1) w _ := how4.trans ho5 (fun x hx => .inl (by simp at hx; simp [hx]))
  refine hN1 _ _ ?_
  conv => whnf
  refine VDraw.abs fun N2 hN2 => ?_
  refine VDraw.ahead 16 (fun w' => Blk w' w.heap.size 29 ⟨[.pointer (some ⟨T, 0, none⟩)]⟩) (fun w' => Blk w' T 103 ⟨natC cf now (.slice A1 k1 c1) (.slice A2 n2 c2) (.slice A3 n3 c3)⟩) [0, 1, 2, 3, 4, 5, 6, 8, 9, 10, 11, 12, 7, 13, 14, 15, 16, 17, 18, 19] (by kernel_rfl) (by kernel_rfl) hbn5.drew hb5.drew ?_
  conv => whnf
  refine ⟨_, fun w' hw' => Loads.one (by kernel_rfl) (hw'.1.at (i := 0) rfl), ?_⟩
  conv => whnf
  refine ⟨_, fun w' hw' => Loads.one (by kernel_rfl) (Blk.at (i := 0) hw' rfl), ?_⟩
  conv => whnf
  refine ⟨_, fun w' hw' => Loads.one (by kernel_rfl) (hw'.1.at (i := 0) rfl), ?_⟩
  conv => whnf
  refine ⟨_, fun w' hw' => Loads.one (by kernel_rfl) (hw'.2.ntO okc), ?_⟩
  conv => whnf
  refine ⟨_, fun w' hw' => Loads.one (by kernel_rfl) (Blk.at (i := 0) hw' rfl), ?_⟩
  conv => whnf
  refine ⟨_, fun w' hw' => Loads.one (by kernel_rfl) (hw'.2.ntI okc), ?_⟩
  conv => whnf
  refine (deleteNt_does (p := fun x => aged now x.from_ cf.hold) hq5.drew (fun x hx w' ho => agedN_does (hbt5.drew.only ho (m2 _ q2)) (hbn5.drew.only ho (m2 _ q1)) (hb5.drew.only ho t2) okc)).mono ?_
  rintro v w6 ⟨k2, rfl, hk2, hrow6, ho6⟩
  have hb6 := hb5.drew.only ho6 t2
  have hbn6 := hbn5.drew.only ho6 (m2 _ q1)
  have hbt6 := hbt5.drew.only ho6 (m2 _ q2)
  have hm6 := hm5.drew.only ho6 (fun k hk h => d12 k hk h)
  have hi6 := hi5.drew.only ho6 (fun k hk h => d23 k h hk)
  have how6 : Only (T :: (F1 ++ F2)) w w6 := (how5.drew.mono (G := T :: (F1 ++ F2)) (fun x hx => .inl (by simp at hx; rcases hx with hx | hx <;> simp [hx]))).trans ho6 (fun x hx => .inl (by simp [hx]))
  refine ⟨⟨hbn6, fun _ => hb6⟩, ?_⟩
  conv => whnf
  refine (deleteNt_does (p := fun x => aged now x.from_ cf.hold) hi6 (fun x hx w' ho => agedN_does (hbt6.only ho (m3 _ q2)) (hbn6.only ho (m3 _ q1)) (hb6.only ho t3) okc)).mono ?_
  rintro v w7 ⟨k3, rfl, hk3, hrow7, ho7⟩
  have hb7 := hb6.only ho7 t3
  have hbn7 := hbn6.only ho7 (m3 _ q1)
  have hm7 := hm6.only ho7 (fun k hk h => d13 k hk h)
  have hq7 := hrow6.only ho7 (fun k hk h => d23 k hk h)
  have how7 : Only (T :: (F1 ++ (F2 ++ F3))) w w7 := (how6.mono (G := T :: (F1 ++ (F2 ++ F3))) (fun x hx => .inl (by simp at hx; rcases hx with hx | hx | hx <;> simp [hx]))).trans ho7 (fun x hx => .inl (by simp [hx]))
  refine ⟨⟨hbn7, fun _ => hb7⟩, ?_⟩
  conv => whnf
  have nT : ∀ {F : List Nat}, T ∉ F → ∀ k ∈ F, k ∉ [T] := fun ht k hk h => by
    obtain rfl : k = T := by simpa using h
    exact ht hk
  refine vStore.one hb7 (by kernel_rfl) rfl (i := 43) (u := .slice A2 n2 c2) ((nat_tail okc 8).trans rfl) (fun hb8 ho8 => ?_)
  rw [natC_setO okc] at hb8
  have hbn8 := hbn7.only ho8 (mT _ q1)
  refine ⟨⟨hbn8, fun h => Bool.noConfusion h⟩, ?_⟩
  have hm8 := hm7.only ho8 (nT t1)
  have hq8 := hq7.only ho8 (nT t2)
  have hi8 := hrow7.only ho8 (nT t3)
  have how8 := how7.trans ho8 (fun x hx => .inl (by simp at hx; simp [hx]))
  conv => whnf
  refine vStore.one hb8 (by kernel_rfl) rfl (i := 44) (u := .slice A3 n3 c3) ((nat_tail okc 9).trans rfl) (fun hb9 ho9 => ?_)
  rw [natC_setI okc] at hb9
  refine ⟨⟨hbn8.only ho9 (mT _ q1), fun h => Bool.noConfusion h⟩, ?_⟩
  have how9 := how8.trans ho9 (fun x hx => .inl (by simp at hx; simp [hx]))
  refine hN2 _ _ ?_
  conv => whnf
  exact ⟨rfl, ⟨A1, k1, c1, F1, A2, k2, c2, F2, A3, k3, c3, F3, hb9, ⟨hm8.only ho9 (nT t1), hq8.only ho9 (nT t2), hi8.only ho9 (nT t3), d23⟩, rfl⟩, how9⟩
end Go.Proofs.YtofomopdaponbaaGreatDoor
