/-
  NatPlays: the given statement, out of the law's walk: the call returns true, and the arguments read behind it as they read before; the package's table of the options' shapes reads as the program's text lays it (the card's tie).
-/
import Derived.Test.YtofomopdaponbaaGreatDoorZac
import Derived.Test.YtofomopdaponbaaGreatDoorYOpsp
import Derived.Test.YtofomopdaponbaaGreatDoorYOps30
namespace Go.Proofs.YtofomopdaponbaaGreatDoor.natPlays
open Go.ChangeShapes Go.WideShapes Go.ChangeAt Go.RowKit
set_option linter.unusedVariables false
set_option linter.unusedSimpArgs false

theorem own : ownKnob Tryz.prog.godebug = none := by kernel_rfl
theorem laidOut : laidOutB Tryz.prog = true := by kernel_rfl
theorem gTab : Tryz.prog.globalNamed "mosaic/opts.shapes" = some 1 := by kernel_rfl
theorem gTabType : (Tryz.prog.globals[1]?).map (·.type) = some 275 := by kernel_rfl
theorem cells2 : Tryz.prog.cellsOf 275 = 2 := by kernel_rfl
theorem cells1 : Tryz.prog.cellsOf 3 = 1 := by kernel_rfl
theorem table {W : World} (h : laidMetH Tryz.prog Rows.natPlaysRow.laid W) : Lib.TabIs Tryz.prog W "mosaic/opts.shapes" .i64 [1, 2] :=
  Lib.tabIs_of_head (rest := []) gTab gTabType Tryz.underlying275 Tryz.underlying3 cells1 cells2 h
set_option maxRecDepth 100000 in
theorem contract (H : Type) (enc : TypeId × Value → H) (W : World) (base : Nat) (args : Array Value) (ds gs : List (DataW H)) (before : List MemPlace)
    (hval0 : ∀ (j : Nat) t v, Tryz.f3.params[j]? = some t → args[j]? = some v → Value.okWide Tryz.prog W .any base t v)
    (hW : DataW.Whole enc Tryz.prog Tryz.f3.params.toList Rows.natPlaysSpec.vars false W args.toList ds gs before)
    (hsz : (DataW.weightsEach Tryz.prog (Tryz.f3.params.toList ++ Rows.natPlaysSpec.plain.varTypes Tryz.prog) (ds ++ gs)).all (· ≤ reachBytes) = true) (hL : laidMetH Tryz.prog Rows.natPlaysRow.laid W) :
    Calls Tryz.prog 3 args W fun e W' => ∃ v, e = .returned v ∧ Rows.natPlaysSpec.post enc Tryz.prog Tryz.f3 false true false false W args v W' := by
  have hs := shp_of_laid (table hL)
  have hg : 1 < W.heap.size := World.block_lt_of_cell? _ _ hs.1
  have hval : ∀ (j : Nat) t v, Tryz.f3.params[j]? = some t → args[j]? = some v → Value.okWide Tryz.prog W .any base t v := hval0
  have hW' := hW
  obtain ⟨p, q, hA0, hV, rfl, hfz, hnd⟩ := hW
  have hA : DataW.TrodAll enc Tryz.prog W 0 (fun _ => true) true Tryz.f3.params.toList args.toList ds p := hA0
  rw [Tryz.params3] at hA hval hsz
  obtain ⟨v0, vs0, d0, ds0, p0, q0, hargs, rfl, rfl, h0, r0⟩ := trodAll_cons hA
  obtain ⟨v1, vs1, d1, ds1, p1, q1, rfl, rfl, rfl, h1, r1⟩ := trodAll_cons r0
  obtain ⟨rfl, rfl, rfl⟩ := trodAll_nil r1
  obtain rfl : args = #[v0, v1] := by cases args; simp_all
  obtain ⟨rfl, rfl⟩ := trodVars_none hV
  have k0 := h0
  have lt0 : ∀ x ∈ p0, x.block < W.heap.size := by obtain ⟨m, hm⟩ := k0; exact DataW.trod_lt m _ _ _ hm
  have wt0 : ∀ k ∈ d0.weights Tryz.prog 26, k ≤ reachBytes := fun k hk => by simpa using List.all_eq_true.1 hsz k (DataW.weights_mem_each (j := 0) (t := 26) (d := d0) rfl rfl k hk)
  obtain ⟨cs0, rfl, -⟩ := okWide_struct Tryz.underlying26 (hval 0 26 v0 rfl rfl)
  obtain ⟨e0, okc0, hv0⟩ : ∃ o : Cf, okCf o ∧ cs0 = ⟨cfC o⟩ := by
    obtain ⟨fuel, hf⟩ := h0
    obtain ⟨o, h1, h2⟩ := open_cf hf
    exact ⟨o, h2, congrArg Array.mk h1⟩
  subst hv0
  have k1 := h1
  have lt1 : ∀ x ∈ p1, x.block < W.heap.size := by obtain ⟨m, hm⟩ := k1; exact DataW.trod_lt m _ _ _ hm
  have wt1 : ∀ k ∈ d1.weights Tryz.prog 27, k ≤ reachBytes := fun k hk => by simpa using List.all_eq_true.1 hsz k (DataW.weights_mem_each (j := 1) (t := 27) (d := d1) rfl rfl k hk)
  obtain ⟨a1, len1, cap1, rfl⟩ := okWide_slice Tryz.underlying27 (hval 1 27 v1 rfl rfl)
  obtain ⟨z1, hX1, hq1, hn1⟩ : ∃ z : List Op30, Arg W 3 a1 len1 (z.flatMap encOp30) ∧ (∀ o ∈ z, OpOk2 W o) ∧ len1 ≤ cap1 ∧ cap1 * 40 ≤ 140737488351232 := by
    obtain ⟨fuel, hf⟩ := h1
    obtain ⟨hnc, hcm, ⟨xs, hX, hxe⟩, hd⟩ := open_argW (size := 3) Tryz.underlying27 (by kernel_rfl) (by decide) hf
    obtain ⟨z, hz, rfl, hq⟩ := gather encOp30 3 (OpOk2 W) len1 xs hX.1 (fun i hi => by obtain ⟨m, y, hy, hyw⟩ := hxe i hi; exact open_op2 hy (fun k hk => wt1 k (hyw k hk)))
    refine ⟨z, hX, hq, ?_⟩
    rcases hd with ⟨_, rfl⟩ | ⟨elems, spr, he, hl, hc⟩
    · omega
    · simp only at he
      subst he
      have := wt1 ((elems.length + spr.length) * Tryz.prog.bytesOf 40) (by simp [DataW.weights, Tryz.underlying27])
      rw [hc (fun _ => rfl), show Tryz.prog.bytesOf 40 = 40 by kernel_rfl] at this
      exact ⟨hnc, this⟩
  obtain ⟨G1, hS1, hG1⟩ := hX1.slG
  clear hA0 hval0
  refine (natPlays_does okc0 hs hg hS1 hG1 hq1 hn1).h.mono fun e W' ⟨v, he, hv, ho⟩ => ?_
  subst he
  subst hv
  have bel : Below W.heap.size W W' := ho.below (Nat.le_refl _) (by simp)
  exact ⟨_, rfl, _, _, _, [], _, [], hW', trodAll_mk1 (shut_bool Tryz.underlying4 _), (trodAll_cons_mk (Below.trod laidOut (by kernel_rfl) (of_decide_eq_true (by kernel_rfl)) k0 bel lt0) (trodAll_cons_mk (Below.trod laidOut (by kernel_rfl) (of_decide_eq_true (by kernel_rfl)) k1 bel lt1) trodAll_mk0)), rfl, bel.frame _, fun h => by cases h⟩
noncomputable def laidWorld (os : Os) : World :=
  { World.holding Tryz.prog os ⟨#[], #[], []⟩ with heap := (World.holding Tryz.prog os ⟨#[], #[], []⟩).heap.modify 1 fun
      | .cells _ t frozen => .cells #[.int .i64 1, .int .i64 2] t frozen
      | o => o }
theorem laid_met (os : Os) : laidMet Tryz.prog Rows.natPlaysRow.laid ((laidWorld os).forCall (fun _ _ => 0) ⟨#[], #[.agg ⟨cfC exC⟩, .slice none 0 0], []⟩).memory :=
  laidMet_of_run' 8 (by kernel_rfl) (by kernel_rfl)
theorem reads (os : Os) {H : Type} (enc : TypeId × Value → H) : ∃ places, DataW.whole enc Tryz.prog ((laidWorld os).forCall (fun _ _ => 0) ⟨#[], #[.agg ⟨cfC exC⟩, .slice none 0 0], []⟩).memory Tryz.f3.params.toList Rows.natPlaysSpec.vars false (#[.agg ⟨cfC exC⟩, .slice none 0 0] : Array Value).toList 8 = some ([.agg [.agg [.lit (.int .i64 4), .agg [.lit (.int .u8 10), .lit (.int .u8 0), .lit (.int .u8 0), .lit (.int .u8 0), .lit (.int .u8 0), .lit (.int .u8 0), .lit (.int .u8 0), .lit (.int .u8 0), .lit (.int .u8 0), .lit (.int .u8 0), .lit (.int .u8 0), .lit (.int .u8 0), .lit (.int .u8 0), .lit (.int .u8 0), .lit (.int .u8 0), .lit (.int .u8 0)]], .lit (.int .i64 8), .agg [.lit (.int .i64 4), .agg [.lit (.int .u8 192), .lit (.int .u8 0), .lit (.int .u8 2), .lit (.int .u8 1), .lit (.int .u8 0), .lit (.int .u8 0), .lit (.int .u8 0), .lit (.int .u8 0), .lit (.int .u8 0), .lit (.int .u8 0), .lit (.int .u8 0), .lit (.int .u8 0), .lit (.int .u8 0), .lit (.int .u8 0), .lit (.int .u8 0), .lit (.int .u8 0)]], .lit (.int .i64 4000), .lit (.int .i64 4001), .lit (.int .i64 100), .lit (.int .i64 8), .lit (.int .i64 4), .lit (.int .i64 30)], .nil], [], places) :=
  ⟨[], by kernel_rfl⟩
set_option maxRecDepth 100000 in
theorem lifted (os : Os) (started : os.Started) (H : Type) (enc : TypeId × Value → H) (F : Stop.Interp) :
    ReturnsInHanded {} Tryz.checked os 3 .any ((OpenSpec.ofChange Rows.natPlaysSpec).preRow enc Tryz.prog Tryz.f3 Rows.natPlaysRow.domain false Rows.natPlaysRow.laid) (((OpenSpec.ofChange Rows.natPlaysSpec).at F).post enc Tryz.prog Tryz.f3 false true false false) := by
  obtain ⟨places, hx⟩ := reads os enc
  refine returnsInHanded_of_row (C := Tryz.checked) (s := (OpenSpec.ofChange Rows.natPlaysSpec)) own started (by kernel_rfl) Tryz.func3
    (witness_row_at (enc := enc) (C := Tryz.checked) false (laidWorld os) #[.agg ⟨cfC exC⟩, .slice none 0 0] rfl (by kernel_rfl) (by kernel_rfl) (by kernel_rfl)
      (OpenSpec.preRow_of_cond 8 hx (by kernel_rfl) (fun k hk => by cases hk) (by kernel_rfl) (laid_met os))) ?_
  intro W base args ds gs before hval hW _ hcond hsz hL _ _
  exact contract H enc W base args ds gs before hval hW hsz hL

theorem said : Rows.natPlaysRow.holds Tryz.pinned (OpenSpec.ofChange Rows.natPlaysSpec) :=
  OpenClaim.holds_of_cond 3 Tryz.f3 rfl rfl rfl rfl rfl rfl rfl ⟨rfl, rfl, rfl, rfl, rfl⟩ rfl rfl rfl rfl rfl (by kernel_rfl) Tryz.func3 (by kernel_rfl)
    (of_decide_eq_true (by kernel_rfl)) (by unfold Func.isWrapper; first | (rw [if_pos (by decide +kernel)]; kernel_rfl) | (rw [if_neg (by decide +kernel)]; exact ⟨rfl, rfl⟩))
    (fun os started H enc _ F => by rw [OpenClaim.pre_eq_preRow]; exact lifted os started H enc F)

theorem plain (f : FuncId) (fn : Func) (hf : Tryz.pinned.checked.prog.funcNamed "mosaic/mosaiclaw30.NatPlays" = some f) (hfn : Tryz.pinned.checked.prog.funcs[f]? = some fn) :
    false = Tryz.pinned.checked.prog.looks [] ∧ ∀ (j : Nat) t, fn.params[j]? = some t → Tryz.pinned.checked.prog.wantsStandIn t = false := by
  obtain rfl : f = 3 := Option.some.inj ((show Tryz.prog.funcNamed "mosaic/mosaiclaw30.NatPlays" = some 3 by kernel_rfl).symm.trans hf) |>.symm
  obtain rfl : fn = Tryz.f3 := (Option.some.inj (Tryz.func3.symm.trans hfn)).symm
  refine ⟨by kernel_rfl, fun j t ht => ?_⟩
  rw [Tryz.params3] at ht
  have hm : t ∈ [26, 27] := by simpa using Array.mem_of_getElem? ht
  have hall : ([26, 27].all fun u => !Tryz.prog.wantsStandIn u) = true := by kernel_rfl
  exact (show Tryz.prog.wantsStandIn t = false by simpa using List.all_eq_true.1 hall t hm)
theorem proved : Rows.NatPlaysCardSaid :=
  Claim7.holds_tied_plain_at .later [] _ _ _ _ said (fun _ h => by cases h) (by kernel_rfl) (fun _ h => by cases h) natPlays_row_tie rfl ⟨rfl, rfl⟩ (by kernel_rfl) rfl plain (by kernel_rfl)
#print axioms proved
end Go.Proofs.YtofomopdaponbaaGreatDoor.natPlays
