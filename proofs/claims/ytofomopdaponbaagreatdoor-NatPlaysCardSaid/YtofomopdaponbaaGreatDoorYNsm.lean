/-
  sameMaps: two lists of mappings, element by element.
-/
import Derived.Test.YtofomopdaponbaaGreatDoorZh
import Derived.Test.YtofomopdaponbaaGreatDoorYVn
namespace Go.Proofs.YtofomopdaponbaaGreatDoor
open Go.RowKit
set_option linter.unusedVariables false
set_option linter.unusedSimpArgs false

set_option maxRecDepth 100000 in
theorem sameMaps_does {w : World} {G H : List Nat} {A B : Option Addr} {n c m d : Nat} {za zb : List Nm} (ha : Sl w 20 G A n (za.flatMap nmC)) (hb : Sl w 20 H B m (zb.flatMap nmC)) (oka : ∀ x ∈ za, okNm x) (okb : ∀ x ∈ zb, okNm x) (hn : n ≤ 1000000) :
    Does Tryz.prog 32 [.slice A n c, .slice B m d] w (fun v w' => v = .bool (decide (za = zb)) ∧ Only [] w w') := by
  have hna := ha.num nmC_len (by decide)
  have hnb := hb.num nmC_len (by decide)
  refine Does.enter (fn := Tryz.f32) (by kernel_rfl) rfl (by kernel_rfl) (by kernel_rfl) ?_
  conv => whnf
  refine VIf.ne (fun hne => ?_) (fun he => ?_)
  · conv => whnf
    refine ⟨congrArg Value.bool (decide_eq_false fun h => hne ?_).symm, Only.refl _ _⟩
    show (n : Int) = (m : Int)
    rw [← hna, ← hnb, h]
  have he : (n : Int) = (m : Int) := he
  obtain rfl : n = m := by omega
  conv => whnf
  refine VLoop.inv (α := Nat) [(4, 6), (11, 26)] (fun t => [(5, .int .i64 t)]) (fun t w' => t ≤ n ∧ za.take t = zb.take t ∧ Only [] w w') (fun t => n - t) 0 (by kernel_rfl) ⟨rfl, trivial⟩ ⟨Nat.zero_le _, rfl, Only.refl _ _⟩ ?_
  rintro i wr j ⟨hi, hte, ho⟩
  conv => whnf
  refine VIf.dec (fun ht => ?_) (fun ht => ?_)
  rotate_left
  · have ht : ¬ (i : Int) < (n : Int) := ht
    rw [List.take_of_length_le (by omega), List.take_of_length_le (by omega)] at hte
    conv => whnf
    exact ⟨congrArg Value.bool (decide_eq_true hte).symm, ho⟩
  have ht : (i : Int) < (n : Int) := ht
  have ei : IntKind.i64.wrap ((i : Int) + 1) = ((i + 1 : Nat) : Int) := by rw [wi64]; omega
  have hia : i < za.length := by omega
  have hib : i < zb.length := by omega
  obtain ⟨a, oa, rfl, -⟩ := ha.some_ (by omega)
  obtain ⟨b, ob, rfl, -⟩ := hb.some_ (by omega)
  conv => whnf
  refine VDraw.abs fun N2 hN2 => ?_
  refine VDraw.q (by kernel_rfl) (by kernel_rfl) ?_
  conv => whnf
  refine ⟨_, _, rfl, i, oa + i * 20, rfl, by omega, rfl, ?_⟩
  conv => whnf
  refine ⟨_, fun w' hw' => (ha.o (ho.t0 hw')).elem nmC_len hia (by kernel_rfl) (by kernel_rfl), ?_⟩
  conv => whnf
  refine ⟨_, _, rfl, i, ob + i * 20, rfl, by omega, rfl, ?_⟩
  conv => whnf
  refine ⟨_, fun w' hw' => (hb.o (ho.t0 hw')).elem nmC_len hib (by kernel_rfl) (by kernel_rfl), ?_⟩
  conv => whnf
  refine ⟨_, eql_nm (oka _ (List.getElem_mem hia)) (okb _ (List.getElem_mem hib)) _ _, ?_⟩
  conv => whnf
  intro wz hoz
  refine hN2 _ _ ?_
  by_cases hx : za[i] = zb[i]
  · refine vc.N (congrArg Value.bool (show (!decide (za[i] = zb[i])) = false by rw [decide_eq_true hx]; rfl)) ?_
    refine vc.S ?_
    conv => whnf
    refine ⟨i + 1, ⟨congrArg (Value.int .i64) ei, trivial⟩, ⟨by omega, ?_, ho.t0 hoz⟩, by omega⟩
    rw [take_snoc' hia, take_snoc' hib, hte, hx]
  · refine vc.T (congrArg Value.bool (show (!decide (za[i] = zb[i])) = true by rw [decide_eq_false hx]; rfl)) ?_
    conv => whnf
    refine ⟨congrArg Value.bool (decide_eq_false fun h => hx ?_).symm, ho.t0 hoz⟩
    simp only [h]
end Go.Proofs.YtofomopdaponbaaGreatDoor
