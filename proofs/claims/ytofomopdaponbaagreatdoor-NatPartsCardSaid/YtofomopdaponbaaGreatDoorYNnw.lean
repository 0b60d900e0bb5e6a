/-
  A new Nat (package nat: may, New); how many notes there are (Notes).
-/
import Derived.Test.YtofomopdaponbaaGreatDoorYNin
namespace Go.Proofs.YtofomopdaponbaaGreatDoor
open Go.RowKit
set_option linter.unusedVariables false
set_option linter.unusedSimpArgs false

def cfC (c : Cf) : List Value := adC c.net ++ (.int .i64 c.bits :: (adC c.outside ++ cfT c))
theorem cf_len {c : Cf} (h : okCf c) : (cfC c).length = 41 := by simp [cfC, cfT, adC_len h.net, adC_len h.outside]
theorem one_cfC (c : Cf) : ∀ u ∈ cfC c, isOne u = true := one_app (one_adC _) (one_cons rfl (one_app (one_adC _) (one_cons rfl (one_cons rfl (one_cons rfl (one_cons rfl (one_cons rfl (one_cons rfl one_nil))))))))
theorem natC_cf (c : Cf) (now : Int) (M O I : Value) : natC c now M O I = cfC c ++ [.int .i64 now, M, O, I] := by simp [natC, cfC]
theorem cf_tail {c : Cf} (h : okCf c) (j : Nat) : (cfC c)[35 + j]? = (cfT c)[j]? := by
  have e1 := adC_len h.net
  have e2 := adC_len h.outside
  unfold cfC
  rw [List.getElem?_append_right (by omega), e1, show 35 + j - 17 = (17 + j) + 1 by omega, List.getElem?_cons_succ, List.getElem?_append_right (by omega), e2]
  congr 1
  omega
section
variable {w : World} {g : Nat} {t : TypeId} {c : Cf}
theorem Blk.cfNet (h : Blk w g t ⟨cfC c⟩) (ok : okCf c) : Loads Tryz.prog 24 ⟨g, 0, none⟩ w (.agg ⟨adC c.net⟩) := Loads.seg (ps := []) h rfl (by kernel_rfl) (by rw [adC_len ok.net]; kernel_rfl)
theorem Blk.cfBits (h : Blk w g t ⟨cfC c⟩) (ok : okCf c) : w.cell? ⟨g, 17, none⟩ = some (.int .i64 c.bits) := h.at (by
  unfold cfC
  rw [List.getElem?_append_right (by rw [adC_len ok.net]; exact Nat.le_refl _), adC_len ok.net]
  rfl)
theorem Blk.cfNetV (h : Blk w g t ⟨cfC c⟩) : w.cell? ⟨g, 0, none⟩ = some (.int .i64 c.net.1) := h.at rfl
theorem Blk.cfOutV (h : Blk w g t ⟨cfC c⟩) (ok : okCf c) : w.cell? ⟨g, 18, none⟩ = some (.int .i64 c.outside.1) := h.at (by
  unfold cfC
  rw [List.getElem?_append_right (by rw [adC_len ok.net]; decide), adC_len ok.net]
  rfl)
theorem Blk.cfOutside (h : Blk w g t ⟨cfC c⟩) (ok : okCf c) : Loads Tryz.prog 24 ⟨g, 18, none⟩ w (.agg ⟨adC c.outside⟩) := by
  have h2 : Blk w g t ⟨(adC c.net ++ [.int .i64 c.bits]) ++ (adC c.outside ++ cfT c)⟩ := by
    rw [List.append_assoc]
    exact h
  exact Loads.seg h2 (by simp [adC_len ok.net]) (by kernel_rfl) (by rw [adC_len ok.outside]; kernel_rfl)
end
def mayB (c : Cf) : Bool :=
  decide (c.net.1 = 4) && decide (maskE c.net c.bits = 0) && decide (maskA c.net c.bits = c.net) && decide (c.outside.1 = 4) && decide (kindA c.outside = 5) && !withinA c.outside c.net c.bits &&
    decide (1 ≤ c.first) && decide (c.last ≤ 65535) && decide (c.first ≤ c.last) && betweenI c.life 1 1099511627776 && betweenI c.hold 1 1099511627776 && betweenI c.maps 1 256 && betweenI c.parts 1 64
set_option maxRecDepth 100000 in
theorem may_does {w : World} {c : Cf} (ok : okCf c) : Does Tryz.prog 42 [.agg ⟨cfC c⟩] w (fun v w' => v = .bool (mayB c) ∧ Only [] w w') := by
  have hA := Only.alloc (Only.refl [] w) (.cells ⟨cfC c⟩ 26)
  have b1 := Blk.new w 26 ⟨cfC c⟩
  refine Does.enter (fn := Tryz.f42) (by kernel_rfl) rfl (by kernel_rfl) (by kernel_rfl) ?_
  conv => whnf
  refine ⟨_, b1.cfNet ok, ?_⟩
  conv => whnf
  refine ⟨_, Loads.one (by kernel_rfl) (b1.cfBits ok), ?_⟩
  conv => whnf
  refine (mask_does ok.net).mono ?_
  rintro v w2 ⟨rfl, ho2⟩
  have okm := maskA_ok ok.net c.bits
  conv => whnf
  refine vStore.fresh (cs := adC (maskA c.net c.bits)) (by rw [adC_len okm]; kernel_rfl) (by rw [adC_len okm]; kernel_rfl) (one_adC _) (fun w3 b3 ho3 _ => ?_)
  have how := (hA.t0 ho2).t0 ho3
  have b1 := b1.only (ho2.t0 ho3) (by simp)
  conv => whnf
  refine ⟨_, Loads.one (by kernel_rfl) b1.cfNetV, ?_⟩
  refine splitB.abs fun N0 hN => ?_
  conv => whnf
  refine VIf.ne (fun h1 => ?_) (fun h1 => ?_)
  · conv => whnf
    refine hN _ _ ?_
    conv => whnf
    exact ⟨congrArg Value.bool (by unfold mayB; rw [decide_eq_false h1]; simp), how⟩
  conv => whnf
  refine VIf.ne (fun h2 => ?_) (fun h2 => ?_)
  · conv => whnf
    refine hN _ _ ?_
    conv => whnf
    exact ⟨congrArg Value.bool (by unfold mayB; rw [decide_eq_false h2]; simp), how⟩
  conv => whnf
  refine ⟨_, Loads.all b3 (by kernel_rfl) (by rw [adC_len okm]; kernel_rfl), ?_⟩
  conv => whnf
  refine ⟨_, b1.cfNet ok, ?_⟩
  conv => whnf
  refine ⟨_, eql_ad okm ok.net _ _, ?_⟩
  conv => whnf
  refine hN _ _ ?_
  conv => whnf
  refine VIf.not (VIf.of (b := decide (maskA c.net c.bits = c.net)) (fun h3 => ?_) (fun h3 => ?_))
  rotate_left
  · conv => whnf
    exact ⟨congrArg Value.bool (by unfold mayB; rw [h3]; simp), how⟩
  conv => whnf
  refine ⟨_, Loads.one (by kernel_rfl) (b1.cfOutV ok), ?_⟩
  refine splitB.abs fun N1 hN1 => ?_
  conv => whnf
  refine VIf.ne (fun h4 => ?_) (fun h4 => ?_)
  · conv => whnf
    refine hN1 _ _ ?_
    conv => whnf
    exact ⟨congrArg Value.bool (by unfold mayB; rw [decide_eq_false h4]; simp), how⟩
  conv => whnf
  refine ⟨_, b1.cfOutside ok, ?_⟩
  conv => whnf
  refine (kind_does ok.outside).mono ?_
  rintro v w4 ⟨rfl, ho4⟩
  have b1 := b1.only ho4 (by simp)
  have how := how.t0 ho4
  conv => whnf
  refine VIf.ne (fun h5 => ?_) (fun h5 => ?_)
  · conv => whnf
    refine hN1 _ _ ?_
    conv => whnf
    exact ⟨congrArg Value.bool (by unfold mayB; rw [decide_eq_false h5]; simp), how⟩
  conv => whnf
  refine ⟨_, b1.cfOutside ok, ?_⟩
  conv => whnf
  refine ⟨_, b1.cfNet ok, ?_⟩
  conv => whnf
  refine ⟨_, Loads.one (by kernel_rfl) (b1.cfBits ok), ?_⟩
  conv => whnf
  refine (within_does ok.outside ok.net).mono ?_
  rintro v w5 ⟨rfl, ho5⟩
  have b1 := b1.only ho5 (by simp)
  have how := how.t0 ho5
  conv => whnf
  refine hN1 _ _ ?_
  conv => whnf
  refine VIf.of (b := withinA c.outside c.net c.bits) (fun h6 => ?_) (fun h6 => ?_)
  · conv => whnf
    exact ⟨congrArg Value.bool (by unfold mayB; rw [h6]; simp), how⟩
  conv => whnf
  refine ⟨_, Loads.one (by kernel_rfl) (b1.at (i := 35) ((cf_tail ok 0).trans rfl)), ?_⟩
  refine splitB.abs fun N2 hN2 => ?_
  conv => whnf
  refine VIf.dec (fun h7 => ?_) (fun h7 => ?_)
  · conv => whnf
    refine hN2 _ _ ?_
    conv => whnf
    exact ⟨congrArg Value.bool (by unfold mayB; rw [show decide (1 ≤ c.first) = false from decide_eq_false (by omega)]; simp), how⟩
  conv => whnf
  refine ⟨_, Loads.one (by kernel_rfl) (b1.at (i := 36) ((cf_tail ok 1).trans rfl)), ?_⟩
  conv => whnf
  refine VIf.dec (fun h8 => ?_) (fun h8 => ?_)
  · conv => whnf
    refine hN2 _ _ ?_
    conv => whnf
    exact ⟨congrArg Value.bool (by unfold mayB; rw [show decide (c.last ≤ 65535) = false from decide_eq_false (by omega)]; simp), how⟩
  conv => whnf
  refine ⟨_, Loads.one (by kernel_rfl) (b1.at (i := 36) ((cf_tail ok 1).trans rfl)), ?_⟩
  conv => whnf
  refine ⟨_, Loads.one (by kernel_rfl) (b1.at (i := 35) ((cf_tail ok 0).trans rfl)), ?_⟩
  conv => whnf
  refine hN2 _ _ ?_
  conv => whnf
  refine VIf.dec (fun h9 => ?_) (fun h9 => ?_)
  · conv => whnf
    exact ⟨congrArg Value.bool (by unfold mayB; rw [show decide (c.first ≤ c.last) = false from decide_eq_false (by omega)]; simp), how⟩
  conv => whnf
  refine ⟨_, Loads.one (by kernel_rfl) (b1.at (i := 37) ((cf_tail ok 2).trans rfl)), ?_⟩
  conv => whnf
  refine between_does.mono ?_
  rintro v w6 ⟨rfl, rfl⟩
  refine splitB.abs fun N3 hN3 => ?_
  conv => whnf
  refine VIf.not (VIf.of (b := betweenI c.life 1 1099511627776) (fun h10 => ?_) (fun h10 => ?_))
  rotate_left
  · conv => whnf
    refine hN3 _ _ ?_
    conv => whnf
    exact ⟨congrArg Value.bool (by unfold mayB; rw [h10]; simp), how⟩
  conv => whnf
  refine ⟨_, Loads.one (by kernel_rfl) (b1.at (i := 40) ((cf_tail ok 5).trans rfl)), ?_⟩
  conv => whnf
  refine between_does.mono ?_
  rintro v w7 ⟨rfl, rfl⟩
  conv => whnf
  refine hN3 _ _ ?_
  conv => whnf
  refine VIf.not (VIf.of (b := betweenI c.hold 1 1099511627776) (fun h11 => ?_) (fun h11 => ?_))
  rotate_left
  · conv => whnf
    exact ⟨congrArg Value.bool (by unfold mayB; rw [h11]; simp), how⟩
  conv => whnf
  refine ⟨_, Loads.one (by kernel_rfl) (b1.at (i := 38) ((cf_tail ok 3).trans rfl)), ?_⟩
  conv => whnf
  refine between_does.mono ?_
  rintro v w8 ⟨rfl, rfl⟩
  refine splitB.abs fun N4 hN4 => ?_
  conv => whnf
  refine VIf.of (b := betweenI c.maps 1 256) (fun h12 => ?_) (fun h12 => ?_)
  rotate_left
  · conv => whnf
    refine hN4 _ _ ?_
    conv => whnf
    exact ⟨congrArg Value.bool (by unfold mayB; rw [h12]; simp), how⟩
  conv => whnf
  refine ⟨_, Loads.one (by kernel_rfl) (b1.at (i := 39) ((cf_tail ok 4).trans rfl)), ?_⟩
  conv => whnf
  refine between_does.mono ?_
  rintro v w9 ⟨rfl, rfl⟩
  conv => whnf
  refine hN4 _ _ ?_
  conv => whnf
  refine ⟨congrArg Value.bool ?_, how⟩
  unfold mayB
  rw [decide_eq_true h1, decide_eq_true h2, h3, decide_eq_true h4, decide_eq_true h5, h6, decide_eq_true (show 1 ≤ c.first by omega), decide_eq_true (show c.last ≤ 65535 by omega), decide_eq_true (show c.first ≤ c.last by omega), h10, h11, h12]
  rfl
def newS (c : Cf) : NatS := ⟨c, 0, [], [], []⟩
set_option maxRecDepth 100000 in
theorem new_does {w : World} {c : Cf} (ok : okCf c) : Does Tryz.prog 11 [.agg ⟨cfC c⟩] w (fun v w' => Only [] w w' ∧ ((mayB c = false ∧ v = .tuple ⟨[.pointer none, .int .i64 1]⟩) ∨
    (mayB c = true ∧ ∃ T, v = .tuple ⟨[.pointer (some ⟨T, 0, none⟩), .int .i64 0]⟩ ∧ w.heap.size ≤ T ∧ St w' T (newS c) [T]))) := by
  have hA := Only.alloc (Only.refl [] w) (.cells ⟨cfC c⟩ 26)
  have b1 := Blk.new w 26 ⟨cfC c⟩
  refine Does.enter (fn := Tryz.f11) (by kernel_rfl) rfl (by kernel_rfl) (by kernel_rfl) ?_
  conv => whnf
  refine ⟨_, Loads.all b1 (by kernel_rfl) (by rw [cf_len ok]; kernel_rfl), ?_⟩
  conv => whnf
  refine (may_does ok).mono ?_
  rintro v w2 ⟨rfl, ho2⟩
  have b12 := b1.only ho2 (by simp)
  have how := hA.t0 ho2
  conv => whnf
  refine VIf.not (VIf.of (b := mayB c) (fun h1 => ?_) (fun h1 => ?_))
  rotate_left
  · conv => whnf
    exact ⟨how, .inl ⟨h1, rfl⟩⟩
  conv => whnf
  refine ⟨_, Loads.all b12 (by kernel_rfl) (by rw [cf_len ok]; kernel_rfl), ?_⟩
  have hlen : (cfC c).length = 41 := cf_len ok
  conv => whnf
  refine lenIs.of (Nat.succ.inj hlen) ?_
  conv => whnf
  refine ⟨how.alloc _, .inr ⟨h1, w2.heap.size, rfl, how.size, none, 0, 0, [], none, 0, 0, [], none, 0, 0, [], ?_, ⟨Row.nil _ _ _ _, Row.nil _ _ _ _, Row.nil _ _ _ _, by simp⟩, rfl⟩⟩
  show Blk _ _ _ ⟨natC c 0 (.slice none 0 0) (.slice none 0 0) (.slice none 0 0)⟩
  rw [natC_cf]
  exact Blk.new w2 103 _
theorem new_ok {c : Cf} (ok : okCf c) (h : mayB c = true) : okS (newS c) := by
  unfold mayB betweenI at h
  simp only [Bool.and_eq_true, decide_eq_true_eq] at h
  exact ⟨ok, h.1.1.1.1.1.1.2, h.1.1.1.1.1.2, h.1.2.2, h.2, (by show ((0 : Nat) : Int) ≤ c.maps; omega), (by show ((0 : Nat) : Int) ≤ c.parts; omega), (by show ((0 : Nat) : Int) ≤ c.parts; omega), by simp [newS], by simp [newS], by simp [newS]⟩
set_option maxRecDepth 100000 in
theorem notes_does {w : World} {T : Nat} {s : NatS} {F : List Nat} (h : St w T s F) (ok : okS s) :
    Does Tryz.prog 19 [.pointer (some ⟨T, 0, none⟩)] w (fun v w' => v = .tuple ⟨[.int .i64 s.outs.length, .int .i64 s.ins.length]⟩ ∧ Only [] w w') := by
  obtain ⟨A1, n1, c1, F1, A2, n2, c2, F2, A3, n3, c3, F3, hb, hr, rfl⟩ := h
  have okc := ok.cf
  have e2 : s.outs.length = n2 := hr.o.sl.num ntC_len (by decide)
  have e3 : s.ins.length = n3 := hr.i.sl.num ntC_len (by decide)
  rw [e2, e3]
  refine Does.enter (fn := Tryz.f19) (by kernel_rfl) rfl (by kernel_rfl) (by kernel_rfl) ?_
  conv => whnf
  refine VDraw.abs fun N0 hN => ?_
  refine VDraw.q (by kernel_rfl) (by kernel_rfl) ?_
  conv => whnf
  refine ⟨_, fun w' hw' => Loads.one (by kernel_rfl) ((hb.only hw' (by simp)).ntO okc), ?_⟩
  conv => whnf
  refine ⟨_, fun w' hw' => Loads.one (by kernel_rfl) ((hb.only hw' (by simp)).ntI okc), ?_⟩
  conv => whnf
  intro w2 ho2
  refine hN _ _ ?_
  conv => whnf
  exact ⟨rfl, ho2⟩
end Go.Proofs.YtofomopdaponbaaGreatDoor
