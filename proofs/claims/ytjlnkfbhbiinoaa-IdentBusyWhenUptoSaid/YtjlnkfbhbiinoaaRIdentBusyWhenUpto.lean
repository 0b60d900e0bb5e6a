/-
  IdentBusyWhen, where what it reads is of bulk at most 1048576: the given statement, out of the law's walk: the call returns true, and the arguments read behind it as they read before.
-/
import Derived.Test.YtjlnkfbhbiinoaaIbusyw
import Derived.Test.YtjlnkfbhbiinoaaOps12
import Derived.Test.YtjlnkfbhbiinoaaArg
import Derived.Test.YtjlnkfbhbiinoaaBulk
import Derived.JoinedCond
namespace Go.Proofs.Ytjlnkfbhbiinoaa.identBusyWhenUpto
open Go.ChangeShapes Go.WideShapes Go.ChangeAt Go.RowKit
set_option linter.unusedVariables false
set_option linter.unusedSimpArgs false

theorem own : ownKnob Try.prog.godebug = none := by kernel_rfl
theorem laidOut : laidOutB Try.prog = true := by kernel_rfl
set_option maxRecDepth 100000 in
theorem lifted (os : Os) (started : os.Started) (H : Type) (enc : TypeId × Value → H) (F : Stop.Interp) :
    ReturnsInHanded {} Try.checked os 10 .any ((Rows.OpenSpec.upto Rows.identBusyWhenSpec).pre6 enc Try.prog Try.f10 Rows.identBusyWhenUptoRow.domain false) (((Rows.OpenSpec.upto Rows.identBusyWhenSpec).at F).post enc Try.prog Try.f10 false true false false) := by
  refine returnsInHanded_of_cond (C := Try.checked) (s := (Rows.OpenSpec.upto Rows.identBusyWhenSpec)) (k := Rows.uptoSmall) rfl own started (by kernel_rfl) Try.func10
    (OpenSpec.witness (enc := enc) (C := Try.checked) (s := (Rows.OpenSpec.upto Rows.identBusyWhenSpec)) (k := Rows.uptoSmall) rfl false ⟨#[], #[.int .i64 0, .int .i64 0, .slice none 0 0], []⟩ 8 (by kernel_rfl) (by kernel_rfl) (by kernel_rfl)
      (x := ([.lit (.int .i64 0), .lit (.int .i64 0), .nil], [], [])) (by kernel_rfl) rfl (by kernel_rfl)) ?_
  intro W base args ds gs before hval0 hW _ hk0 _
  have hbk := bulks.bound hk0
  have hval : ∀ (j : Nat) t v, Try.f10.params[j]? = some t → args[j]? = some v → Value.okWide Try.prog W .any base t v := hval0
  have hW' := hW
  obtain ⟨p, q, hA0, hV, rfl, hfz, hnd⟩ := hW
  have hA : DataW.TrodAll enc Try.prog W 0 (fun _ => true) true Try.f10.params.toList args.toList ds p := hA0
  rw [Try.params10] at hA hval
  obtain ⟨v0, vs0, d0, ds0, p0, q0, hargs, rfl, rfl, h0, r0⟩ := trodAll_cons hA
  obtain ⟨v1, vs1, d1, ds1, p1, q1, rfl, rfl, rfl, h1, r1⟩ := trodAll_cons r0
  obtain ⟨v2, vs2, d2, ds2, p2, q2, rfl, rfl, rfl, h2, r2⟩ := trodAll_cons r1
  obtain ⟨rfl, rfl, rfl⟩ := trodAll_nil r2
  obtain rfl : args = #[v0, v1, v2] := by cases args; simp_all
  obtain ⟨rfl, rfl⟩ := trodVars_none hV
  obtain ⟨a0, rfl, rfl, rfl, w0⟩ := open_int Try.underlying2 (hval 0 2 v0 rfl rfl) h0
  obtain ⟨a1, rfl, rfl, rfl, w1⟩ := open_int Try.underlying2 (hval 1 2 v1 rfl rfl) h1
  obtain ⟨a2, len2, cap2, rfl⟩ := okWide_slice Try.underlying93 (hval 2 93 v2 rfl rfl)
  have k2 := h2
  have lt2 : ∀ x ∈ p2, x.block < W.heap.size := by obtain ⟨m, hm⟩ := k2; exact DataW.trod_lt m _ _ _ hm
  have bl2 := bulks.part_le (d := d2) (l := [.lit (.int .i64 a0), .lit (.int .i64 a1), d2] ++ []) (by simp)
  obtain ⟨z2, hz2, hArg2, hq2, hn2⟩ : ∃ z : List (Int), z.length = len2 ∧ Arg W 1 a2 len2 (z.flatMap encI64) ∧ (∀ o ∈ z, (Lit.int .i64 o).wf = true) ∧ len2 ≤ 1048576 := by
    obtain ⟨fuel, hf⟩ := h2
    obtain ⟨hnc, hcm, ⟨xs, hX, hxe⟩, hd⟩ := open_arg (size := 1) Try.underlying93 (by kernel_rfl) (by decide) hf
    obtain ⟨z, hz, rfl, hq⟩ := gather encI64 1 (fun o => (Lit.int .i64 o).wf = true) len2 xs hX.1 (fun i hi => by obtain ⟨m, y, hy⟩ := hxe i hi; exact open_i64 hy)
    refine ⟨z, hz, hX, hq, ?_⟩
    rcases hd with ⟨_, rfl⟩ | ⟨elems, spr, he, hl, _⟩
    · omega
    · simp only at he
      subst he
      have := bulks.slice_le elems spr
      omega
  clear hA0 hval0
  refine (identBusyWhen_walk a0 a1 a2 len2 cap2 z2 W (bounds_i64 w0) (bounds_i64 w1) hz2 hArg2 hq2 hn2).mono fun e W' ⟨he, bel⟩ => ?_
  subst he
  exact ⟨_, rfl, _, _, _, [], _, [], hW', trodAll_mk1 (shut_bool Try.underlying4 _), (trodAll_cons_mk (shut_int Try.underlying2 w0) (trodAll_cons_mk (shut_int Try.underlying2 w1) (trodAll_cons_mk (Below.trod laidOut (by kernel_rfl) (of_decide_eq_true (by kernel_rfl)) k2 bel lt2) trodAll_mk0))), rfl, bel.frame _, fun h => by cases h⟩

theorem over : Rows.identBusyWhenUptoRow.holds Try.pinned (Rows.OpenSpec.upto Rows.identBusyWhenSpec) :=
  OpenClaim.holds_of_cond 10 Try.f10 rfl rfl rfl rfl rfl rfl rfl ⟨rfl, rfl, rfl, rfl, rfl⟩ rfl rfl rfl rfl rfl (by kernel_rfl) Try.func10 (by kernel_rfl)
    (of_decide_eq_true (by kernel_rfl)) (by unfold Func.isWrapper; first | (rw [if_pos (by decide +kernel)]; kernel_rfl) | (rw [if_neg (by decide +kernel)]; exact ⟨rfl, rfl⟩))
    (fun os started H enc _ F => lifted os started H enc F)

theorem proved : Rows.IdentBusyWhenUptoSaid := over
#print axioms proved
end Go.Proofs.Ytjlnkfbhbiinoaa.identBusyWhenUpto
