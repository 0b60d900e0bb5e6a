/-
  IdentPlays: the given statement, out of the law's walk: for every input the call returns true, and the arguments read behind it as they read before.
-/
import Derived.Test.YtjlnkfbhbiinoaaIplays
import Derived.Test.YtjlnkfbhbiinoaaOps12
import Derived.Test.YtjlnkfbhbiinoaaArg
namespace Go.Proofs.Ytjlnkfbhbiinoaa.identPlays
open Go.ChangeShapes Go.WideShapes Go.ChangeAt Go.RowKit
set_option linter.unusedVariables false
set_option linter.unusedSimpArgs false

theorem own : ownKnob Try.prog.godebug = none := by kernel_rfl
theorem laidOut : laidOutB Try.prog = true := by kernel_rfl
set_option maxRecDepth 100000 in
theorem lifted (os : Os) (started : os.Started) (H : Type) (enc : TypeId × Value → H) :
    ReturnsInHanded {} Try.checked os 8 .any (Rows.identPlaysSpec.pre6 enc Try.prog Try.f8 Rows.identPlaysRow.domain false) (Rows.identPlaysSpec.post enc Try.prog Try.f8 false true false false) := by
  refine returnsInHanded_of_change_sized (C := Try.checked) own started (by kernel_rfl) Try.func8
    (ChangeSpec.witness6 (enc := enc) (C := Try.checked) false ⟨#[], #[.slice none 0 0], []⟩ 8 (by kernel_rfl) (by kernel_rfl) (by kernel_rfl) (by kernel_rfl)) ?_
  intro W base args ds gs before hval0 hW hcnd hsz0 _
  have hsz : (DataW.weightsEach Try.prog (Try.f8.params.toList ++ Rows.identPlaysSpec.plain.varTypes Try.prog) (ds ++ gs)).all (· ≤ reachBytes) = true := hsz0
  have hval : ∀ (j : Nat) t v, Try.f8.params[j]? = some t → args[j]? = some v → Value.okWide Try.prog W .any base t v := hval0
  have hW' := hW
  obtain ⟨p, q, hA0, hV, rfl, hfz, hnd⟩ := hW
  have hA : DataW.TrodAll enc Try.prog W 0 (fun _ => true) true Try.f8.params.toList args.toList ds p := hA0
  rw [Try.params8] at hA hval hsz
  obtain ⟨v0, vs0, d0, ds0, p0, q0, hargs, rfl, rfl, h0, r0⟩ := trodAll_cons hA
  obtain ⟨rfl, rfl, rfl⟩ := trodAll_nil r0
  obtain rfl : args = #[v0] := by cases args; simp_all
  obtain ⟨rfl, rfl⟩ := trodVars_none hV
  obtain ⟨a0, len0, cap0, rfl⟩ := okWide_slice Try.underlying76 (hval 0 76 v0 rfl rfl)
  have k0 := h0
  have lt0 : ∀ x ∈ p0, x.block < W.heap.size := by obtain ⟨m, hm⟩ := k0; exact DataW.trod_lt m _ _ _ hm
  obtain ⟨z0, hz0, hArg0, hq0, hn0, hr0⟩ : ∃ z : List (Int × Int × Int × Int), z.length = len0 ∧ Arg W 4 a0 len0 (z.flatMap encOp12) ∧ (∀ o ∈ z, (Lit.int .i64 o.1).wf = true ∧ (Lit.int .i64 o.2.1).wf = true ∧ (Lit.int .i64 o.2.2.1).wf = true ∧ (Lit.int .i64 o.2.2.2).wf = true) ∧ len0 ≤ cap0 ∧ cap0 * 32 ≤ 140737488351232 := by
    obtain ⟨fuel, hf⟩ := h0
    obtain ⟨hnc, hcm, ⟨xs, hX, hxe⟩, hd⟩ := open_arg (size := 4) Try.underlying76 (by kernel_rfl) (by decide) hf
    obtain ⟨z, hz, rfl, hq⟩ := gather encOp12 4 (fun o => (Lit.int .i64 o.1).wf = true ∧ (Lit.int .i64 o.2.1).wf = true ∧ (Lit.int .i64 o.2.2.1).wf = true ∧ (Lit.int .i64 o.2.2.2).wf = true) len0 xs hX.1 (fun i hi => by obtain ⟨m, y, hy⟩ := hxe i hi; exact open_op12 hy)
    refine ⟨z, hz, hX, hq, hnc, ?_⟩
    rcases hd with ⟨_, rfl⟩ | ⟨elems, spr, he, _, hc⟩
    · omega
    · simp only at he
      subst he
      have := sized_slice hsz (j := 0) (t := 76) (e := 82) rfl rfl Try.underlying76
      rw [hc (fun _ => rfl), show Try.prog.bytesOf 82 = 32 by kernel_rfl] at this
      exact this
  clear hA0 hval0
  refine (identPlays_walk a0 len0 cap0 z0 W hz0 hArg0 hq0 hn0 hr0).mono fun e W' ⟨he, bel⟩ => ?_
  subst he
  exact ⟨_, rfl, _, _, _, [], _, [], hW', trodAll_mk1 (shut_bool Try.underlying4 _), (trodAll_cons_mk (Below.trod laidOut (by kernel_rfl) (of_decide_eq_true (by kernel_rfl)) k0 bel lt0) trodAll_mk0), rfl, bel.frame _, fun h => by cases h⟩

theorem over : Rows.identPlaysRow.holds Try.pinned (OpenSpec.ofChange Rows.identPlaysSpec) :=
  OpenClaim.holds_of_wide 8 Try.f8 rfl rfl rfl rfl rfl rfl rfl ⟨rfl, rfl, rfl, rfl, rfl⟩ rfl rfl rfl rfl rfl (by kernel_rfl) Try.func8 (by kernel_rfl)
    (of_decide_eq_true (by kernel_rfl)) (by unfold Func.isWrapper; first | (rw [if_pos (by decide +kernel)]; kernel_rfl) | (rw [if_neg (by decide +kernel)]; exact ⟨rfl, rfl⟩))
    (fun os started H enc _ => lifted os started H enc)

theorem proved : Rows.IdentPlaysSaid := over
#print axioms proved
end Go.Proofs.Ytjlnkfbhbiinoaa.identPlays
