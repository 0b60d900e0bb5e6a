/-
  The table of icmp's types and codes, as the row lists it.
-/
import Derived.Test.YtofomopdaponbaaGreatDoorYOps30
import Derived.Test.YtofomopdaponbaaGreatDoorZp
import Derived.OpenShut
namespace Go.Proofs.YtofomopdaponbaaGreatDoor
open Go.ChangeShapes Go.WideShapes Go.ChangeAt Go.RowKit Go.Deep
set_option linter.unusedVariables false
set_option linter.unusedSimpArgs false

section
variable {H : Type} {enc : TypeId × Value → H} {w : World} {base : Nat} {spare : Nat → Bool} {held : Bool} {m : Nat} {cs : List Value} {p : List MemPlace}
set_option maxRecDepth 100000 in
theorem sign1 {a b : Int} (h : DataW.trod enc Tryz.prog w base spare held m 263 cs = some (.agg [.lit (.int .i64 a), .lit (.int .i64 b)], p)) : cs = [.int .i64 a, .int .i64 b] := by
  obtain ⟨ys, n', _, hy, hlen, hyl, hf⟩ := DataW.trod_struct Tryz.underlying263 h
  have hc : Tryz.prog.cellsOf 263 = 2 := by kernel_rfl
  rw [hc] at hlen
  have c0 : Tryz.prog.cellsOf 3 = 1 := by kernel_rfl
  match cs, hlen with
  | [v0, v1], _ =>
    have t0 : DataW.trod enc Tryz.prog w base spare held n' 3 (([v0, v1].drop 0).take (Tryz.prog.cellsOf 3)) = ys[0]? := hf 0 _ rfl
    have t1 : DataW.trod enc Tryz.prog w base spare held n' 3 (([v0, v1].drop 1).take (Tryz.prog.cellsOf 3)) = ys[1]? := hf 1 _ rfl
    simp only [c0, List.drop_zero, List.take_succ_cons, List.take_zero, List.drop_succ_cons] at t0 t1
    have hys : ys.length = 2 := hyl
    match ys, hys, hy with
    | [y0, y1], _, hy =>
      obtain ⟨x0, hx0, hd0, _⟩ := DataW.trod_int Tryz.underlying3 t0
      obtain ⟨x1, hx1, hd1, _⟩ := DataW.trod_int Tryz.underlying3 t1
      injection hx0 with hx0
      injection hx1 with hx1
      subst hx0
      subst hx1
      subst hd0
      subst hd1
      have h2 := congrArg Prod.fst hy
      simp only [List.map_cons, List.map_nil, DataW.agg.injEq, List.cons.injEq, DataW.lit.injEq, Lit.int.injEq, true_and, and_true] at h2
      obtain ⟨rfl, rfl⟩ := h2
      rfl
set_option maxRecDepth 100000 in
theorem sign2 {a b c d : Int} (h : DataW.trod enc Tryz.prog w base spare held m 264 cs = some (.agg [.agg [.lit (.int .i64 a), .lit (.int .i64 b)], .agg [.lit (.int .i64 c), .lit (.int .i64 d)]], p)) : cs = [.int .i64 a, .int .i64 b, .int .i64 c, .int .i64 d] := by
  obtain ⟨ys, n', _, hy, hlen, hyl, hf⟩ := DataW.trod_array Tryz.underlying264 h
  have hc : Tryz.prog.cellsOf 264 = 4 := by kernel_rfl
  have c0 : Tryz.prog.cellsOf 263 = 2 := by kernel_rfl
  rw [hc] at hlen
  have t0 := hf 0 (by decide)
  have t1 := hf 1 (by decide)
  rw [c0] at t0 t1
  match ys, hyl, hy with
  | [y0, y1], _, hy =>
    have h2 := congrArg Prod.fst hy
    simp only [List.map_cons, List.map_nil, DataW.agg.injEq, List.cons.injEq, and_true] at h2
    obtain ⟨e0, e1⟩ := h2
    obtain ⟨z0, q0⟩ := y0
    obtain ⟨z1, q1⟩ := y1
    dsimp only at e0 e1
    have s0 := sign1 (t0.trans (show _ = some (_, q0) by rw [e0]; rfl))
    have s1 := sign1 (t1.trans (show _ = some (_, q1) by rw [e1]; rfl))
    match cs, hlen with
    | [v0, v1, v2, v3], _ =>
      simp at s0 s1
      obtain ⟨rfl, rfl⟩ := s0
      obtain ⟨rfl, rfl⟩ := s1
      rfl
set_option maxRecDepth 100000 in
theorem sign10 (h : DataW.trod enc Tryz.prog w base spare held m 265 cs = some (.agg [.agg [.agg [.lit (.int .i64 3), .lit (.int .i64 4)], .agg [.lit (.int .i64 2), .lit (.int .i64 0)]], .agg [.agg [.lit (.int .i64 3), .lit (.int .i64 3)], .agg [.lit (.int .i64 1), .lit (.int .i64 4)]], .agg [.agg [.lit (.int .i64 3), .lit (.int .i64 0)], .agg [.lit (.int .i64 1), .lit (.int .i64 0)]], .agg [.agg [.lit (.int .i64 11), .lit (.int .i64 0)], .agg [.lit (.int .i64 3), .lit (.int .i64 0)]], .agg [.agg [.lit (.int .i64 11), .lit (.int .i64 1)], .agg [.lit (.int .i64 3), .lit (.int .i64 1)]]], p)) : cs = signL.map (Value.int .i64) := by
  obtain ⟨ys, n', _, hy, hlen, hyl, hf⟩ := DataW.trod_array Tryz.underlying265 h
  have hc : Tryz.prog.cellsOf 265 = 20 := by kernel_rfl
  have c0 : Tryz.prog.cellsOf 264 = 4 := by kernel_rfl
  rw [hc] at hlen
  have t0 := hf 0 (by decide)
  have t1 := hf 1 (by decide)
  have t2 := hf 2 (by decide)
  have t3 := hf 3 (by decide)
  have t4 := hf 4 (by decide)
  rw [c0] at t0 t1 t2 t3 t4
  match ys, hyl, hy with
  | [y0, y1, y2, y3, y4], _, hy =>
    have h2 := congrArg Prod.fst hy
    simp only [List.map_cons, List.map_nil, DataW.agg.injEq, List.cons.injEq, and_true] at h2
    obtain ⟨e0, e1, e2, e3, e4⟩ := h2
    obtain ⟨z0, q0⟩ := y0
    obtain ⟨z1, q1⟩ := y1
    obtain ⟨z2, q2⟩ := y2
    obtain ⟨z3, q3⟩ := y3
    obtain ⟨z4, q4⟩ := y4
    dsimp only at e0 e1 e2 e3 e4
    have s0 := sign2 (t0.trans (show _ = some (_, q0) by rw [e0]; rfl))
    have s1 := sign2 (t1.trans (show _ = some (_, q1) by rw [e1]; rfl))
    have s2 := sign2 (t2.trans (show _ = some (_, q2) by rw [e2]; rfl))
    have s3 := sign2 (t3.trans (show _ = some (_, q3) by rw [e3]; rfl))
    have s4 := sign2 (t4.trans (show _ = some (_, q4) by rw [e4]; rfl))
    match cs, hlen with
    | [v0, v1, v2, v3, v4, v5, v6, v7, v8, v9, v10, v11, v12, v13, v14, v15, v16, v17, v18, v19], _ =>
      simp at s0 s1 s2 s3 s4
      obtain ⟨rfl, rfl, rfl, rfl⟩ := s0
      obtain ⟨rfl, rfl, rfl, rfl⟩ := s1
      obtain ⟨rfl, rfl, rfl, rfl⟩ := s2
      obtain ⟨rfl, rfl, rfl, rfl⟩ := s3
      obtain ⟨rfl, rfl, rfl, rfl⟩ := s4
      rfl
end
theorem sgn_of_var {W : World} {cs : Array Value} (h : W.var? Tryz.prog "mosaic/icmp.signs" = some cs) (hc : cs.toList = signL.map (Value.int .i64)) : Sgn W := fun i z hz => by
  have h1 := World.var?_cell (show Tryz.prog.globalNamed "mosaic/icmp.signs" = some 0 by kernel_rfl) h i
  rw [h1, ← Array.getElem?_toList, hc, List.getElem?_map, hz]
  rfl
theorem sgn_of_laid {W : World} {n0 : String} {d0 : DataW Unit} {rest : List (String × DataW Unit)} (h : laidMet Tryz.prog ((n0, d0) :: ("mosaic/icmp.signs", Rows.laid_mosaic_icmp_signs) :: rest) W) : Sgn W := by
  obtain ⟨ps, hv, -, -⟩ := h
  obtain ⟨g, t, cs, fuel, p, q, _, _, _, _, hv, rfl⟩ := hv
  obtain ⟨g, t, cs, fuel, p, q, hg, ht, hvar, hd, _, rfl⟩ := hv
  obtain rfl := Option.some.inj ((show Tryz.prog.globalNamed "mosaic/icmp.signs" = some 0 by kernel_rfl).symm.trans hg)
  obtain rfl := Option.some.inj ((show (Tryz.prog.globals[0]?).map (·.type) = some 265 by kernel_rfl).symm.trans ht)
  exact sgn_of_var hvar (sign10 hd)
end Go.Proofs.YtofomopdaponbaaGreatDoor
