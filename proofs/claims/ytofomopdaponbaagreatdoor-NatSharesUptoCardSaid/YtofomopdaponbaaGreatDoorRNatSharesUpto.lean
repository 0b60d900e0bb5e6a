/-
  NatShares, where what it reads is of bulk at most 1048576: the given statement, out of the law's walk: the call returns true, and the arguments read behind it as they read before; the package's table of the options' shapes reads as the program's text lays it (the card's tie).
-/
import Derived.Test.YtofomopdaponbaaGreatDoorNsh
import Derived.Test.YtofomopdaponbaaGreatDoorOps30
import Derived.Test.YtofomopdaponbaaGreatDoorBulk
namespace Go.Proofs.YtofomopdaponbaaGreatDoor.natSharesUpto
open Go.ChangeShapes Go.WideShapes Go.ChangeAt Go.RowKit
set_option linter.unusedVariables false
set_option linter.unusedSimpArgs false

theorem own : ownKnob Tryz.prog.godebug = none := by kernel_rfl
theorem laidOut : laidOutB Tryz.prog = true := by kernel_rfl
theorem gTab : Tryz.prog.globalNamed "mosaic/opts.shapes" = some 1 := by kernel_rfl
theorem gTabType : (Tryz.prog.globals[1]?).map (·.type) = some 275 := by kernel_rfl
theorem cells2 : Tryz.prog.cellsOf 275 = 2 := by kernel_rfl
theorem cells1 : Tryz.prog.cellsOf 3 = 1 := by kernel_rfl
theorem table {W : World} (h : laidMetH Tryz.prog Rows.natSharesUptoRow.laid W) : Lib.TabIs Tryz.prog W "mosaic/opts.shapes" .i64 [1, 2] :=
  Lib.tabIs_of_head (rest := []) gTab gTabType Tryz.underlying275 Tryz.underlying3 cells1 cells2 h
set_option maxRecDepth 100000 in
theorem contract (H : Type) (enc : TypeId × Value → H) (W : World) (base : Nat) (args : Array Value) (ds gs : List (DataW H)) (before : List MemPlace)
    (hval0 : ∀ (j : Nat) t v, Tryz.f4.params[j]? = some t → args[j]? = some v → Value.okWide Tryz.prog W .any base t v)
    (hW : DataW.Whole enc Tryz.prog Tryz.f4.params.toList Rows.natSharesSpec.vars false W args.toList ds gs before)
    (hk0 : Rows.uptoSmall H (ds ++ gs) = true)
    (hsz : (DataW.weightsEach Tryz.prog (Tryz.f4.params.toList ++ Rows.natSharesSpec.plain.varTypes Tryz.prog) (ds ++ gs)).all (· ≤ reachBytes) = true) (hL : laidMetH Tryz.prog Rows.natSharesUptoRow.laid W) :
    Calls Tryz.prog 4 args W fun e W' => ∃ v, e = .returned v ∧ Rows.natSharesSpec.post enc Tryz.prog Tryz.f4 false true false false W args v W' := by
  have hbk := bulks.bound hk0
  have hs := shp_of_laid (table hL)
  have hg : 1 < W.heap.size := World.block_lt_of_cell? _ _ hs.1
  have hval : ∀ (j : Nat) t v, Tryz.f4.params[j]? = some t → args[j]? = some v → Value.okWide Tryz.prog W .any base t v := hval0
  have hW' := hW
  obtain ⟨p, q, hA0, hV, rfl, hfz, hnd⟩ := hW
  have hA : DataW.TrodAll enc Tryz.prog W 0 (fun _ => true) true Tryz.f4.params.toList args.toList ds p := hA0
  rw [Tryz.params4] at hA hval hsz
  obtain ⟨v0, vs0, d0, ds0, p0, q0, hargs, rfl, rfl, h0, r0⟩ := trodAll_cons hA
  obtain ⟨v1, vs1, d1, ds1, p1, q1, rfl, rfl, rfl, h1, r1⟩ := trodAll_cons r0
  obtain ⟨v2, vs2, d2, ds2, p2, q2, rfl, rfl, rfl, h2, r2⟩ := trodAll_cons r1
  obtain ⟨rfl, rfl, rfl⟩ := trodAll_nil r2
  obtain rfl : args = #[v0, v1, v2] := by cases args; simp_all
  obtain ⟨rfl, rfl⟩ := trodVars_none hV
  obtain ⟨a0, rfl, rfl, rfl, w0⟩ := open_int Tryz.underlying3 (hval 0 3 v0 rfl rfl) h0
  obtain ⟨a1, rfl, rfl, rfl, w1⟩ := open_int Tryz.underlying3 (hval 1 3 v1 rfl rfl) h1
  have k2 := h2
  have lt2 : ∀ x ∈ p2, x.block < W.heap.size := by obtain ⟨m, hm⟩ := k2; exact DataW.trod_lt m _ _ _ hm
  have wt2 : ∀ k ∈ d2.weights Tryz.prog 27, k ≤ reachBytes := fun k hk => by simpa using List.all_eq_true.1 hsz k (DataW.weights_mem_each (j := 2) (t := 27) (d := d2) rfl rfl k hk)
  have bl2 := bulks.part_le (d := d2) (l := [.lit (.int .i64 a0), .lit (.int .i64 a1), d2] ++ []) (by simp)
  obtain ⟨a2, len2, cap2, rfl⟩ := okWide_slice Tryz.underlying27 (hval 2 27 v2 rfl rfl)
  obtain ⟨z2, hX2, hq2, hn2⟩ : ∃ z : List Op30, Arg W 3 a2 len2 (z.flatMap encOp30) ∧ (∀ o ∈ z, OpOk W o) ∧ len2 ≤ 1048576 := by
    obtain ⟨fuel, hf⟩ := h2
    obtain ⟨hnc, hcm, ⟨xs, hX, hxe⟩, hd⟩ := open_argW (size := 3) Tryz.underlying27 (by kernel_rfl) (by decide) hf
    obtain ⟨z, hz, rfl, hq⟩ := gather encOp30 3 (OpOk W) len2 xs hX.1 (fun i hi => by obtain ⟨m, y, hy, hyw⟩ := hxe i hi; exact open_op30 hy (fun k hk => wt2 k (hyw k hk)))
    refine ⟨z, hX, hq, ?_⟩
    rcases hd with ⟨_, rfl⟩ | ⟨elems, spr, he, hl, hc⟩
    · omega
    · simp only at he
      subst he
      have := bulks.slice_le elems spr
      omega
  obtain ⟨G2, hS2, hG2⟩ := hX2.slG
  clear hA0 hval0
  refine (natShares_does hs hg hS2 hG2 hq2 hn2).h.mono fun e W' ⟨v, he, hv, ho⟩ => ?_
  subst he
  subst hv
  have bel : Below W.heap.size W W' := ho.below (Nat.le_refl _) (by simp)
  exact ⟨_, rfl, _, _, _, [], _, [], hW', trodAll_mk1 (shut_bool Tryz.underlying4 _), (trodAll_cons_mk (shut_int Tryz.underlying3 w0) (trodAll_cons_mk (shut_int Tryz.underlying3 w1) (trodAll_cons_mk (Below.trod laidOut (by kernel_rfl) (of_decide_eq_true (by kernel_rfl)) k2 bel lt2) trodAll_mk0))), rfl, bel.frame _, fun h => by cases h⟩
noncomputable def laidWorld (os : Os) : World :=
  { World.holding Tryz.prog os ⟨#[], #[], []⟩ with heap := (World.holding Tryz.prog os ⟨#[], #[], []⟩).heap.modify 1 fun
      | .cells _ t frozen => .cells #[.int .i64 1, .int .i64 2] t frozen
      | o => o }
theorem laid_met (os : Os) : laidMet Tryz.prog Rows.natSharesUptoRow.laid ((laidWorld os).forCall (fun _ _ => 0) ⟨#[], #[.int .i64 0, .int .i64 0, .slice none 0 0], []⟩).memory :=
  laidMet_of_run' 8 (by kernel_rfl) (by kernel_rfl)
theorem reads (os : Os) {H : Type} (enc : TypeId × Value → H) : ∃ places, DataW.whole enc Tryz.prog ((laidWorld os).forCall (fun _ _ => 0) ⟨#[], #[.int .i64 0, .int .i64 0, .slice none 0 0], []⟩).memory Tryz.f4.params.toList Rows.natSharesSpec.vars false (#[.int .i64 0, .int .i64 0, .slice none 0 0] : Array Value).toList 8 = some ([.lit (.int .i64 0), .lit (.int .i64 0), .nil], [], places) :=
  ⟨[], by kernel_rfl⟩
set_option maxRecDepth 100000 in
theorem lifted (os : Os) (started : os.Started) (H : Type) (enc : TypeId × Value → H) (F : Stop.Interp) :
    ReturnsInHanded {} Tryz.checked os 4 .any ((Rows.OpenSpec.upto Rows.natSharesSpec).preRow enc Tryz.prog Tryz.f4 Rows.natSharesUptoRow.domain false Rows.natSharesUptoRow.laid) (((Rows.OpenSpec.upto Rows.natSharesSpec).at F).post enc Tryz.prog Tryz.f4 false true false false) := by
  obtain ⟨places, hx⟩ := reads os enc
  refine returnsInHanded_of_row (C := Tryz.checked) (s := (Rows.OpenSpec.upto Rows.natSharesSpec)) own started (by kernel_rfl) Tryz.func4
    (witness_row_at (enc := enc) (C := Tryz.checked) false (laidWorld os) #[.int .i64 0, .int .i64 0, .slice none 0 0] rfl (by kernel_rfl) (by kernel_rfl) (by kernel_rfl)
      (OpenSpec.preRow_of_cond 8 hx (by kernel_rfl) (fun k hk => by cases hk; kernel_rfl) (by kernel_rfl) (laid_met os))) ?_
  intro W base args ds gs before hval hW _ hcond hsz hL _ _
  exact contract H enc W base args ds gs before hval hW (hcond _ rfl) hsz hL

theorem said : Rows.natSharesUptoRow.holds Tryz.pinned (Rows.OpenSpec.upto Rows.natSharesSpec) :=
  OpenClaim.holds_of_cond 4 Tryz.f4 rfl rfl rfl rfl rfl rfl rfl ⟨rfl, rfl, rfl, rfl, rfl⟩ rfl rfl rfl rfl rfl (by kernel_rfl) Tryz.func4 (by kernel_rfl)
    (of_decide_eq_true (by kernel_rfl)) (by unfold Func.isWrapper; first | (rw [if_pos (by decide +kernel)]; kernel_rfl) | (rw [if_neg (by decide +kernel)]; exact ⟨rfl, rfl⟩))
    (fun os started H enc _ F => by rw [OpenClaim.pre_eq_preRow]; exact lifted os started H enc F)

theorem plain (f : FuncId) (fn : Func) (hf : Tryz.pinned.checked.prog.funcNamed "mosaic/mosaiclaw30.NatShares" = some f) (hfn : Tryz.pinned.checked.prog.funcs[f]? = some fn) :
    false = Tryz.pinned.checked.prog.looks [] ∧ ∀ (j : Nat) t, fn.params[j]? = some t → Tryz.pinned.checked.prog.wantsStandIn t = false := by
  obtain rfl : f = 4 := Option.some.inj ((show Tryz.prog.funcNamed "mosaic/mosaiclaw30.NatShares" = some 4 by kernel_rfl).symm.trans hf) |>.symm
  obtain rfl : fn = Tryz.f4 := (Option.some.inj (Tryz.func4.symm.trans hfn)).symm
  refine ⟨by kernel_rfl, fun j t ht => ?_⟩
  rw [Tryz.params4] at ht
  have hm : t ∈ [3, 3, 27] := by simpa using Array.mem_of_getElem? ht
  have hall : ([3, 3, 27].all fun u => !Tryz.prog.wantsStandIn u) = true := by kernel_rfl
  exact (show Tryz.prog.wantsStandIn t = false by simpa using List.all_eq_true.1 hall t hm)
theorem proved : Rows.NatSharesUptoCardSaid :=
  Claim7.holds_tied_plain_at .later [] _ _ _ _ said (fun _ h => by cases h) (by kernel_rfl) (fun _ h => by cases h) natSharesUpto_row_tie rfl ⟨rfl, rfl⟩ (by kernel_rfl) rfl plain (by kernel_rfl)
#print axioms proved
end Go.Proofs.YtofomopdaponbaaGreatDoor.natSharesUpto
