/-
  NatParts: the given statement, out of the law's walk: the call returns true, and the arguments read behind it as they read before; the package's table of the options' shapes reads as the program's text lays it (the card's tie).
-/
import Derived.Test.YtofomopdaponbaaGreatDoorYPw
import Derived.Test.YtofomopdaponbaaGreatDoorYOpse
import Derived.Test.YtofomopdaponbaaGreatDoorYOpsi
import Derived.Test.YtofomopdaponbaaGreatDoorYOps30
namespace Go.Proofs.YtofomopdaponbaaGreatDoor.natParts
open Go.ChangeShapes Go.WideShapes Go.ChangeAt Go.RowKit
set_option linter.unusedVariables false
set_option linter.unusedSimpArgs false

theorem own : ownKnob Tryz.prog.godebug = none := by kernel_rfl
theorem laidOut : laidOutB Tryz.prog = true := by kernel_rfl
theorem gTab : Tryz.prog.globalNamed "mosaic/opts.shapes" = some 1 := by kernel_rfl
theorem gTabType : (Tryz.prog.globals[1]?).map (·.type) = some 275 := by kernel_rfl
theorem cells2 : Tryz.prog.cellsOf 275 = 2 := by kernel_rfl
theorem cells1 : Tryz.prog.cellsOf 3 = 1 := by kernel_rfl
theorem table {W : World} (h : laidMetH Tryz.prog Rows.natPartsRow.laid W) : Lib.TabIs Tryz.prog W "mosaic/opts.shapes" .i64 [1, 2] :=
  Lib.tabIs_of_head (rest := []) gTab gTabType Tryz.underlying275 Tryz.underlying3 cells1 cells2 h
set_option maxRecDepth 100000 in
theorem contract (H : Type) (enc : TypeId × Value → H) (W : World) (base : Nat) (args : Array Value) (ds gs : List (DataW H)) (before : List MemPlace)
    (hval0 : ∀ (j : Nat) t v, Tryz.f8.params[j]? = some t → args[j]? = some v → Value.okWide Tryz.prog W .any base t v)
    (hW : DataW.Whole enc Tryz.prog Tryz.f8.params.toList Rows.natPartsSpec.vars false W args.toList ds gs before)
    (hsz : (DataW.weightsEach Tryz.prog (Tryz.f8.params.toList ++ Rows.natPartsSpec.plain.varTypes Tryz.prog) (ds ++ gs)).all (· ≤ reachBytes) = true) (hL : laidMetH Tryz.prog Rows.natPartsRow.laid W) :
    Calls Tryz.prog 8 args W fun e W' => ∃ v, e = .returned v ∧ Rows.natPartsSpec.post enc Tryz.prog Tryz.f8 false true false false W args v W' := by
  have hs := shp_of_laid (table hL)
  have hg : 1 < W.heap.size := World.block_lt_of_cell? _ _ hs.1
  have hval : ∀ (j : Nat) t v, Tryz.f8.params[j]? = some t → args[j]? = some v → Value.okWide Tryz.prog W .any base t v := hval0
  have hW' := hW
  obtain ⟨p, q, hA0, hV, rfl, hfz, hnd⟩ := hW
  have hA : DataW.TrodAll enc Tryz.prog W 0 (fun _ => true) true Tryz.f8.params.toList args.toList ds p := hA0
  rw [Tryz.params8] at hA hval hsz
  obtain ⟨v0, vs0, d0, ds0, p0, q0, hargs, rfl, rfl, h0, r0⟩ := trodAll_cons hA
  obtain ⟨v1, vs1, d1, ds1, p1, q1, rfl, rfl, rfl, h1, r1⟩ := trodAll_cons r0
  obtain ⟨v2, vs2, d2, ds2, p2, q2, rfl, rfl, rfl, h2, r2⟩ := trodAll_cons r1
  obtain ⟨v3, vs3, d3, ds3, p3, q3, rfl, rfl, rfl, h3, r3⟩ := trodAll_cons r2
  obtain ⟨v4, vs4, d4, ds4, p4, q4, rfl, rfl, rfl, h4, r4⟩ := trodAll_cons r3
  obtain ⟨v5, vs5, d5, ds5, p5, q5, rfl, rfl, rfl, h5, r5⟩ := trodAll_cons r4
  obtain ⟨rfl, rfl, rfl⟩ := trodAll_nil r5
  obtain rfl : args = #[v0, v1, v2, v3, v4, v5] := by cases args; simp_all
  obtain ⟨rfl, rfl⟩ := trodVars_none hV
  have k0 := h0
  have lt0 : ∀ x ∈ p0, x.block < W.heap.size := by obtain ⟨m, hm⟩ := k0; exact DataW.trod_lt m _ _ _ hm
  have wt0 : ∀ k ∈ d0.weights Tryz.prog 66, k ≤ reachBytes := fun k hk => by simpa using List.all_eq_true.1 hsz k (DataW.weights_mem_each (j := 0) (t := 66) (d := d0) rfl rfl k hk)
  obtain ⟨cs0, rfl, -⟩ := okWide_struct Tryz.underlying66 (hval 0 66 v0 rfl rfl)
  obtain ⟨e0, hv0⟩ : ∃ o : Int × Int, cs0 = ⟨encEnd o⟩ := by
    obtain ⟨fuel, hf⟩ := h0
    obtain ⟨o, h1, -⟩ := open_end hf
    exact ⟨o, congrArg Array.mk h1⟩
  subst hv0
  obtain ⟨a1, rfl, rfl, rfl, w1⟩ := open_int Tryz.underlying3 (hval 1 3 v1 rfl rfl) h1
  have k2 := h2
  have lt2 : ∀ x ∈ p2, x.block < W.heap.size := by obtain ⟨m, hm⟩ := k2; exact DataW.trod_lt m _ _ _ hm
  have wt2 : ∀ k ∈ d2.weights Tryz.prog 38, k ≤ reachBytes := fun k hk => by simpa using List.all_eq_true.1 hsz k (DataW.weights_mem_each (j := 2) (t := 38) (d := d2) rfl rfl k hk)
  obtain ⟨a2, len2, cap2, rfl⟩ := okWide_slice Tryz.underlying38 (hval 2 38 v2 rfl rfl)
  obtain ⟨l2, G2, hl2, hB2, hG2, hc2, hn2, hm2⟩ : ∃ l G, len2 = (l : List UInt8).length ∧ Bs W G a2 l.length l ∧ (∀ k ∈ G, k < W.heap.size) ∧ l.length ≤ cap2 ∧ l.length ≤ 140737488355328 ∧ cap2 ≤ 9223372036854775807 := by
    obtain ⟨fuel, hf⟩ := h2
    obtain ⟨A, c, l, G, e, r⟩ := open_bytes hf wt2
    simp only [Value.slice.injEq] at e
    obtain ⟨rfl, rfl, rfl⟩ := e
    exact ⟨l, G, rfl, r⟩
  subst hl2
  obtain ⟨a3, rfl, rfl, rfl, w3⟩ := open_int Tryz.underlying3 (hval 3 3 v3 rfl rfl) h3
  have k4 := h4
  have lt4 : ∀ x ∈ p4, x.block < W.heap.size := by obtain ⟨m, hm⟩ := k4; exact DataW.trod_lt m _ _ _ hm
  have wt4 : ∀ k ∈ d4.weights Tryz.prog 82, k ≤ reachBytes := fun k hk => by simpa using List.all_eq_true.1 hsz k (DataW.weights_mem_each (j := 4) (t := 82) (d := d4) rfl rfl k hk)
  obtain ⟨a4, len4, cap4, rfl⟩ := okWide_slice Tryz.underlying82 (hval 4 82 v4 rfl rfl)
  obtain ⟨z4, hX4, hn4⟩ : ∃ z : List Int, Arg W 1 a4 len4 (z.map (Value.int .i64)) ∧ len4 ≤ cap4 ∧ cap4 ≤ 9223372036854775807 := by
    obtain ⟨fuel, hf⟩ := h4
    obtain ⟨hnc, hcm, ⟨xs, hX, hxe⟩, hd⟩ := open_argW (size := 1) Tryz.underlying82 (by kernel_rfl) (by decide) hf
    obtain ⟨z, hz, rfl, hq⟩ := gather (fun x : Int => [Value.int .i64 x]) 1 (fun _ => True) len4 xs hX.1 (fun i hi => by obtain ⟨m, y, hy, hyw⟩ := hxe i hi; exact open_i1 hy)
    exact ⟨z, map_flat1 z ▸ hX, hnc, hcm⟩
  obtain ⟨G4, hS4, hG4⟩ := hX4.slG
  obtain ⟨a5, rfl, rfl, rfl, w5⟩ := open_int Tryz.underlying3 (hval 5 3 v5 rfl rfl) h5
  clear hA0 hval0
  refine (natParts_does hs hg hB2 hG2 hc2 hn2 hm2 hS4 hG4 hn4).h.mono fun e W' ⟨v, he, hv, ho⟩ => ?_
  subst he
  subst hv
  have bel : Below W.heap.size W W' := ho.below (Nat.le_refl _) (by simp)
  exact ⟨_, rfl, _, _, _, [], _, [], hW', trodAll_mk1 (shut_bool Tryz.underlying4 _), (trodAll_cons_mk (Below.trod laidOut (by kernel_rfl) (of_decide_eq_true (by kernel_rfl)) k0 bel lt0) (trodAll_cons_mk (shut_int Tryz.underlying3 w1) (trodAll_cons_mk (Below.trod laidOut (by kernel_rfl) (of_decide_eq_true (by kernel_rfl)) k2 bel lt2) (trodAll_cons_mk (shut_int Tryz.underlying3 w3) (trodAll_cons_mk (Below.trod laidOut (by kernel_rfl) (of_decide_eq_true (by kernel_rfl)) k4 bel lt4) (trodAll_cons_mk (shut_int Tryz.underlying3 w5) trodAll_mk0)))))), rfl, bel.frame _, fun h => by cases h⟩
noncomputable def laidWorld (os : Os) : World :=
  { World.holding Tryz.prog os ⟨#[], #[], []⟩ with heap := (World.holding Tryz.prog os ⟨#[], #[], []⟩).heap.modify 1 fun
      | .cells _ t frozen => .cells #[.int .i64 1, .int .i64 2] t frozen
      | o => o }
theorem laid_met (os : Os) : laidMet Tryz.prog Rows.natPartsRow.laid ((laidWorld os).forCall (fun _ _ => 0) ⟨#[], #[.agg #[.int .i64 0, .int .i64 0], .int .i64 0, .slice none 0 0, .int .i64 0, .slice none 0 0, .int .i64 0], []⟩).memory :=
  laidMet_of_run' 8 (by kernel_rfl) (by kernel_rfl)
theorem reads (os : Os) {H : Type} (enc : TypeId × Value → H) : ∃ places, DataW.whole enc Tryz.prog ((laidWorld os).forCall (fun _ _ => 0) ⟨#[], #[.agg #[.int .i64 0, .int .i64 0], .int .i64 0, .slice none 0 0, .int .i64 0, .slice none 0 0, .int .i64 0], []⟩).memory Tryz.f8.params.toList Rows.natPartsSpec.vars false (#[.agg #[.int .i64 0, .int .i64 0], .int .i64 0, .slice none 0 0, .int .i64 0, .slice none 0 0, .int .i64 0] : Array Value).toList 8 = some ([.agg [.lit (.int .i64 0), .lit (.int .i64 0)], .lit (.int .i64 0), .nil, .lit (.int .i64 0), .nil, .lit (.int .i64 0)], [], places) :=
  ⟨[], by kernel_rfl⟩
set_option maxRecDepth 100000 in
theorem lifted (os : Os) (started : os.Started) (H : Type) (enc : TypeId × Value → H) (F : Stop.Interp) :
    ReturnsInHanded {} Tryz.checked os 8 .any ((OpenSpec.ofChange Rows.natPartsSpec).preRow enc Tryz.prog Tryz.f8 Rows.natPartsRow.domain false Rows.natPartsRow.laid) (((OpenSpec.ofChange Rows.natPartsSpec).at F).post enc Tryz.prog Tryz.f8 false true false false) := by
  obtain ⟨places, hx⟩ := reads os enc
  refine returnsInHanded_of_row (C := Tryz.checked) (s := (OpenSpec.ofChange Rows.natPartsSpec)) own started (by kernel_rfl) Tryz.func8
    (witness_row_at (enc := enc) (C := Tryz.checked) false (laidWorld os) #[.agg #[.int .i64 0, .int .i64 0], .int .i64 0, .slice none 0 0, .int .i64 0, .slice none 0 0, .int .i64 0] rfl (by kernel_rfl) (by kernel_rfl) (by kernel_rfl)
      (OpenSpec.preRow_of_cond 8 hx (by kernel_rfl) (fun k hk => by cases hk) (by kernel_rfl) (laid_met os))) ?_
  intro W base args ds gs before hval hW _ hcond hsz hL _ _
  exact contract H enc W base args ds gs before hval hW hsz hL

theorem said : Rows.natPartsRow.holds Tryz.pinned (OpenSpec.ofChange Rows.natPartsSpec) :=
  OpenClaim.holds_of_cond 8 Tryz.f8 rfl rfl rfl rfl rfl rfl rfl ⟨rfl, rfl, rfl, rfl, rfl⟩ rfl rfl rfl rfl rfl (by kernel_rfl) Tryz.func8 (by kernel_rfl)
    (of_decide_eq_true (by kernel_rfl)) (by unfold Func.isWrapper; first | (rw [if_pos (by decide +kernel)]; kernel_rfl) | (rw [if_neg (by decide +kernel)]; exact ⟨rfl, rfl⟩))
    (fun os started H enc _ F => by rw [OpenClaim.pre_eq_preRow]; exact lifted os started H enc F)

theorem plain (f : FuncId) (fn : Func) (hf : Tryz.pinned.checked.prog.funcNamed "mosaic/mosaiclaw30.NatParts" = some f) (hfn : Tryz.pinned.checked.prog.funcs[f]? = some fn) :
    false = Tryz.pinned.checked.prog.looks [] ∧ ∀ (j : Nat) t, fn.params[j]? = some t → Tryz.pinned.checked.prog.wantsStandIn t = false := by
  obtain rfl : f = 8 := Option.some.inj ((show Tryz.prog.funcNamed "mosaic/mosaiclaw30.NatParts" = some 8 by kernel_rfl).symm.trans hf) |>.symm
  obtain rfl : fn = Tryz.f8 := (Option.some.inj (Tryz.func8.symm.trans hfn)).symm
  refine ⟨by kernel_rfl, fun j t ht => ?_⟩
  rw [Tryz.params8] at ht
  have hm : t ∈ [66, 3, 38, 3, 82, 3] := by simpa using Array.mem_of_getElem? ht
  have hall : ([66, 3, 38, 3, 82, 3].all fun u => !Tryz.prog.wantsStandIn u) = true := by kernel_rfl
  exact (show Tryz.prog.wantsStandIn t = false by simpa using List.all_eq_true.1 hall t hm)
theorem proved : Rows.NatPartsCardSaid :=
  Claim7.holds_tied_plain_at .later [] _ _ _ _ said (fun _ h => by cases h) (by kernel_rfl) (fun _ h => by cases h) natParts_row_tie rfl ⟨rfl, rfl⟩ (by kernel_rfl) rfl plain (by kernel_rfl)
#print axioms proved
end Go.Proofs.YtofomopdaponbaaGreatDoor.natParts
