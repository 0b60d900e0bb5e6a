/-
  Time goes by (package nat): what has lived long enough is gone.
-/
import Derived.Test.YtofomopdaponbaaGreatDoorNqu
namespace Go.Proofs.YtofomopdaponbaaGreatDoor
open Go.RowKit
set_option linter.unusedVariables false
set_option linter.unusedSimpArgs false

/-- Has it lived so long? -/
def aged (now from_ life : Int) : Bool := decide (IntKind.i64.wrap (now - from_) ≥ life)
set_option maxRecDepth 100000 in
theorem agedM_does {w : World} {qt qn T : Nat} {tt tn t : TypeId} {cf : Cf} {now0 now : Int} {M O I : Value} {m : Nm} (h1 : Blk w qt tt ⟨[.int .i64 now]⟩) (h2 : Blk w qn tn ⟨[.pointer (some ⟨T, 0, none⟩)]⟩) (h3 : Blk w T t ⟨natC cf now0 M O I⟩) (ok : okCf cf) :
    Does Tryz.prog 192 [.agg ⟨nmC m⟩, .pointer (some ⟨qt, 0, none⟩), .pointer (some ⟨qn, 0, none⟩)] w (fun v w' => v = .bool (aged now m.used cf.life) ∧ Only [] w w') := by
  have hA := Only.alloc (Only.refl [] w) (.cells ⟨nmC m⟩ 48)
  have hm := Blk.new w 48 ⟨nmC m⟩
  refine Does.enter (fn := Tryz.f192) (by kernel_rfl) rfl (by kernel_rfl) (by kernel_rfl) ?_
  conv => whnf
  refine VDraw.abs fun N0 hN => ?_
  refine VDraw.q (by kernel_rfl) (by kernel_rfl) ?_
  conv => whnf
  refine ⟨_, fun w' hw' => Loads.one (by kernel_rfl) ((h1.only (hA.t0 hw') (by simp)).at (i := 0) rfl), ?_⟩
  conv => whnf
  refine ⟨_, fun w' hw' => Loads.one (by kernel_rfl) ((hm.only hw' (by simp)).at ((nm_tail m 2).trans rfl)), ?_⟩
  conv => whnf
  refine ⟨_, fun w' hw' => Loads.one (by kernel_rfl) ((h2.only (hA.t0 hw') (by simp)).at (i := 0) rfl), ?_⟩
  conv => whnf
  refine ⟨_, fun w' hw' => Loads.one (by kernel_rfl) ((h3.only (hA.t0 hw') (by simp)).ntLife ok), ?_⟩
  conv => whnf
  intro w2 ho2
  conv => whnf
  refine hN _ _ ?_
  conv => whnf
  exact ⟨rfl, hA.t0 ho2⟩
theorem nt_from (x : Nt) : (ntC x)[54]? = some (.int .i64 x.from_) := by
  unfold ntC
  rw [List.getElem?_append_right (by rw [kyC_len]; decide), kyC_len, List.getElem?_append_right (by rw [adP_len]; decide), adP_len]
  rfl
set_option maxRecDepth 100000 in
theorem agedN_does {w : World} {qt qn T : Nat} {tt tn t : TypeId} {cf : Cf} {now0 now : Int} {M O I : Value} {x : Nt} (h1 : Blk w qt tt ⟨[.int .i64 now]⟩) (h2 : Blk w qn tn ⟨[.pointer (some ⟨T, 0, none⟩)]⟩) (h3 : Blk w T t ⟨natC cf now0 M O I⟩) (ok : okCf cf) :
    Does Tryz.prog 193 [.agg ⟨ntC x⟩, .pointer (some ⟨qt, 0, none⟩), .pointer (some ⟨qn, 0, none⟩)] w (fun v w' => v = .bool (aged now x.from_ cf.hold) ∧ Only [] w w') := by
  have hA := Only.alloc (Only.refl [] w) (.cells ⟨ntC x⟩ 185)
  have hm := Blk.new w 185 ⟨ntC x⟩
  refine Does.enter (fn := Tryz.f193) (by kernel_rfl) rfl (by kernel_rfl) (by kernel_rfl) ?_
  conv => whnf
  refine VDraw.abs fun N0 hN => ?_
  refine VDraw.q (by kernel_rfl) (by kernel_rfl) ?_
  conv => whnf
  refine ⟨_, fun w' hw' => Loads.one (by kernel_rfl) ((h1.only (hA.t0 hw') (by simp)).at (i := 0) rfl), ?_⟩
  conv => whnf
  refine ⟨_, fun w' hw' => Loads.one (by kernel_rfl) ((hm.only hw' (by simp)).at (nt_from x)), ?_⟩
  conv => whnf
  refine ⟨_, fun w' hw' => Loads.one (by kernel_rfl) ((h2.only (hA.t0 hw') (by simp)).at (i := 0) rfl), ?_⟩
  conv => whnf
  refine ⟨_, fun w' hw' => Loads.one (by kernel_rfl) ((h3.only (hA.t0 hw') (by simp)).ntHold ok), ?_⟩
  conv => whnf
  intro w2 ho2
  conv => whnf
  refine hN _ _ ?_
  conv => whnf
  exact ⟨rfl, hA.t0 ho2⟩
end Go.Proofs.YtofomopdaponbaaGreatDoor
