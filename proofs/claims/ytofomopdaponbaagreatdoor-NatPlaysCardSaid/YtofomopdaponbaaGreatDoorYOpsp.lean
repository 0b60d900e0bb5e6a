/-
  A nat's configuration among the arguments; packets whose bytes lie within their room.
-/
import Derived.Test.YtofomopdaponbaaGreatDoorYOps30
import Derived.Test.YtofomopdaponbaaGreatDoorYNnw
namespace Go.Proofs.YtofomopdaponbaaGreatDoor
open Go.ChangeShapes Go.WideShapes Go.ChangeAt Go.RowKit Go.Deep
set_option linter.unusedVariables false
set_option linter.unusedSimpArgs false

theorem drop_split {α : Type} (l : List α) (k m : Nat) : l.drop k = (l.drop k).take m ++ l.drop (k + m) := by rw [← List.drop_drop, List.take_append_drop]
section
variable {H : Type} {enc : TypeId × Value → H} {w : World} {base : Nat} {spare : Nat → Bool} {held : Bool}
theorem open_one {t : TypeId} {k : IntKind} {m : Nat} {cs : List Value} {y : DataW H × List MemPlace} (ht : Tryz.prog.underlying t = some (.int k)) (h : DataW.trod enc Tryz.prog w base spare held m t cs = some y) : ∃ x, cs = [.int k x] ∧ (Lit.int k x).wf = true := by
  obtain ⟨x, hx, _, hw⟩ := DataW.trod_int ht h
  exact ⟨x, hx, hw⟩
theorem wf_i64 {x : Int} (h : (Lit.int .i64 x).wf = true) : -9223372036854775808 ≤ x ∧ x ≤ 9223372036854775807 := by
  simp only [Lit.wf, IntKind.min, IntKind.max, IntKind.signed, IntKind.bits, Bool.and_eq_true, decide_eq_true_eq] at h
  simp at h
  exact h
set_option maxRecDepth 100000 in
theorem open_ad {m : Nat} {cs : List Value} {y : DataW H × List MemPlace} (h : DataW.trod enc Tryz.prog w base spare held m 24 cs = some y) : ∃ a : Ad, cs = adC a ∧ okAd a := by
  obtain ⟨ys, n', _, hy, hlen, hyl, hf⟩ := DataW.trod_struct Tryz.underlying24 h
  have hc : Tryz.prog.cellsOf 24 = 17 := by kernel_rfl
  rw [hc] at hlen
  have c0 : Tryz.prog.cellsOf 3 = 1 := by kernel_rfl
  have c1 : Tryz.prog.cellsOf 22 = 16 := by kernel_rfl
  have c2 : Tryz.prog.cellsOf 5 = 1 := by kernel_rfl
  have hys : ys.length = 2 := hyl
  have t0 : DataW.trod enc Tryz.prog w base spare held n' 3 ((cs.drop 0).take (Tryz.prog.cellsOf 3)) = ys[0]? := hf 0 _ rfl
  have t1 : DataW.trod enc Tryz.prog w base spare held n' 22 ((cs.drop 1).take (Tryz.prog.cellsOf 22)) = ys[1]? := hf 1 _ rfl
  rw [List.getElem?_eq_getElem (by omega), c0] at t0
  rw [List.getElem?_eq_getElem (by omega), c1] at t1
  obtain ⟨x, hx, hxw⟩ := open_one Tryz.underlying3 t0
  obtain ⟨xs, m', _, _, hl16, hxl, hel⟩ := DataW.trod_array Tryz.underlying22 t1
  have e16 : (cs.drop 1).take 16 = cs.drop 1 := List.take_of_length_le (by rw [List.length_drop]; omega)
  rw [e16] at hel hl16
  rw [c1] at hl16
  obtain ⟨l, hl⟩ := all_u8 (w := w) (enc := enc) (base := base) (spare := spare) (held := held) (xs := cs.drop 1) (n := 16) hl16 (fun i hi => by
    have := hel i hi
    rw [c2, List.getElem?_eq_getElem (by omega)] at this
    exact ⟨m', _, this⟩)
  refine ⟨(x, l), ?_, wf_i64 hxw |>.1, (wf_i64 hxw).2, ?_⟩
  · have e := drop_split cs 0 1
    rw [hx, hl] at e
    exact e
  · have := congrArg List.length hl
    rw [List.length_map] at this
    show l.length = 16
    omega
set_option maxRecDepth 100000 in
theorem open_cf {m : Nat} {cs : List Value} {y : DataW H × List MemPlace} (h : DataW.trod enc Tryz.prog w base spare held m 26 cs = some y) : ∃ c : Cf, cs = cfC c ∧ okCf c := by
  obtain ⟨ys, n', _, hy, hlen, hyl, hf⟩ := DataW.trod_struct Tryz.underlying26 h
  have hc : Tryz.prog.cellsOf 26 = 41 := by kernel_rfl
  rw [hc] at hlen
  have c0 : Tryz.prog.cellsOf 3 = 1 := by kernel_rfl
  have c1 : Tryz.prog.cellsOf 24 = 17 := by kernel_rfl
  have c2 : Tryz.prog.cellsOf 2 = 1 := by kernel_rfl
  have hys : ys.length = 9 := hyl
  have t0 : DataW.trod enc Tryz.prog w base spare held n' 24 ((cs.drop 0).take (Tryz.prog.cellsOf 24)) = ys[0]? := hf 0 _ rfl
  have t1 : DataW.trod enc Tryz.prog w base spare held n' 3 ((cs.drop 17).take (Tryz.prog.cellsOf 3)) = ys[1]? := hf 1 _ rfl
  have t2 : DataW.trod enc Tryz.prog w base spare held n' 24 ((cs.drop 18).take (Tryz.prog.cellsOf 24)) = ys[2]? := hf 2 _ rfl
  have t3 : DataW.trod enc Tryz.prog w base spare held n' 3 ((cs.drop 35).take (Tryz.prog.cellsOf 3)) = ys[3]? := hf 3 _ rfl
  have t4 : DataW.trod enc Tryz.prog w base spare held n' 3 ((cs.drop 36).take (Tryz.prog.cellsOf 3)) = ys[4]? := hf 4 _ rfl
  have t5 : DataW.trod enc Tryz.prog w base spare held n' 2 ((cs.drop 37).take (Tryz.prog.cellsOf 2)) = ys[5]? := hf 5 _ rfl
  have t6 : DataW.trod enc Tryz.prog w base spare held n' 3 ((cs.drop 38).take (Tryz.prog.cellsOf 3)) = ys[6]? := hf 6 _ rfl
  have t7 : DataW.trod enc Tryz.prog w base spare held n' 3 ((cs.drop 39).take (Tryz.prog.cellsOf 3)) = ys[7]? := hf 7 _ rfl
  have t8 : DataW.trod enc Tryz.prog w base spare held n' 2 ((cs.drop 40).take (Tryz.prog.cellsOf 2)) = ys[8]? := hf 8 _ rfl
  rw [List.getElem?_eq_getElem (by omega), c1] at t0 t2
  rw [List.getElem?_eq_getElem (by omega), c0] at t1 t3 t4 t6 t7
  rw [List.getElem?_eq_getElem (by omega), c2] at t5 t8
  obtain ⟨net, e0, ok0⟩ := open_ad t0
  obtain ⟨x1, e1, -⟩ := open_one Tryz.underlying3 t1
  obtain ⟨out, e2, ok2⟩ := open_ad t2
  obtain ⟨x3, e3, -⟩ := open_one Tryz.underlying3 t3
  obtain ⟨x4, e4, -⟩ := open_one Tryz.underlying3 t4
  obtain ⟨x5, e5, -⟩ := open_one Tryz.underlying2 t5
  obtain ⟨x6, e6, -⟩ := open_one Tryz.underlying3 t6
  obtain ⟨x7, e7, -⟩ := open_one Tryz.underlying3 t7
  obtain ⟨x8, e8, -⟩ := open_one Tryz.underlying2 t8
  refine ⟨⟨net, x1, out, x3, x4, x5, x6, x7, x8⟩, ?_, ok0, ok2⟩
  have s0 := drop_split cs 0 17
  have s1 := drop_split cs 17 1
  have s2 := drop_split cs 18 17
  have s3 := drop_split cs 35 1
  have s4 := drop_split cs 36 1
  have s5 := drop_split cs 37 1
  have s6 := drop_split cs 38 1
  have s7 := drop_split cs 39 1
  have s8 := drop_split cs 40 1
  rw [e0] at s0
  rw [e1] at s1
  rw [e2] at s2
  rw [e3] at s3
  rw [e4] at s4
  rw [e5] at s5
  rw [e6] at s6
  rw [e7] at s7
  rw [e8, List.drop_of_length_le (i := 40 + 1) (l := cs) (by omega)] at s8
  rw [List.drop_zero] at s0
  rw [s0, s1, s2, s3, s4, s5, s6, s7, s8]
  rfl
end
/-- Bytes that came in, and how many there may be. -/
theorem open_bytes2 {H : Type} {enc : TypeId × Value → H} {w : World} {base : Nat} {spare : Nat → Bool} {held : Bool} {m : Nat} {v : Value} {y : DataW H × List MemPlace}
    (h : DataW.trod enc Tryz.prog w base spare held m 38 [v] = some y) (hw : ∀ k ∈ y.1.weights Tryz.prog 38, k ≤ reachBytes) :
    ∃ A c l G, v = .slice A (l : List UInt8).length c ∧ Bs w G A l.length l ∧ (∀ k ∈ G, k < w.heap.size) ∧ l.length ≤ c ∧ l.length ≤ 140737488351232 ∧ c ≤ 9223372036854775807 := by
  obtain ⟨A, n, c, rfl⟩ : ∃ A n c, v = .slice A n c := by
    rcases open_slice Tryz.underlying38 h with ⟨hcs, _⟩ | ⟨a, len, cap, _, _, _, _, hcs, _⟩
    · injection hcs with hcs
      exact ⟨_, _, _, hcs⟩
    · injection hcs with hcs
      exact ⟨_, _, _, hcs⟩
  obtain ⟨h1, h2, ⟨xs, hX, hel⟩, hd⟩ := open_arg (size := 1) Tryz.underlying38 (by kernel_rfl) (by decide) h
  obtain ⟨l, rfl⟩ := all_u8 (n := n) (by rw [hX.1]; omega) hel
  have hl : l.length = n := by have := hX.1; simpa using this
  subst hl
  obtain ⟨G, hG, hGl⟩ := hX.slG
  refine ⟨A, c, l, G, rfl, hG, hGl, h1, ?_, h2⟩
  rcases hd with ⟨_, rfl⟩ | ⟨elems, spr, he, hel, _⟩
  · omega
  · rw [he] at hw
    have := hw ((elems.length + spr.length) * Tryz.prog.bytesOf 5) (by simp [DataW.weights, Tryz.underlying38])
    rw [show Tryz.prog.bytesOf 5 = 1 by kernel_rfl] at this
    have e : reachBytes = 140737488351232 := rfl
    omega
def OpOk2 (w : World) (o : Op30) : Prop := OpOk w o ∧ o.l.length ≤ 140737488351232 ∧ o.l.length ≤ o.c
set_option maxRecDepth 100000 in
theorem open_op2 {H : Type} {enc : TypeId × Value → H} {w : World} {base : Nat} {spare : Nat → Bool} {held : Bool} {m : Nat} {cs : List Value} {y : DataW H × List MemPlace}
    (h : DataW.trod enc Tryz.prog w base spare held m 40 cs = some y) (hw : ∀ k ∈ y.1.weights Tryz.prog 40, k ≤ reachBytes) : ∃ o : Op30, cs = encOp30 o ∧ OpOk2 w o := by
  obtain ⟨ys, n', _, hy, hlen, hyl, hf⟩ := DataW.trod_struct Tryz.underlying40 h
  have hc : Tryz.prog.cellsOf 40 = 3 := by kernel_rfl
  rw [hc] at hlen
  have c0 : Tryz.prog.cellsOf 4 = 1 := by kernel_rfl
  have c1 : Tryz.prog.cellsOf 2 = 1 := by kernel_rfl
  have c2 : Tryz.prog.cellsOf 38 = 1 := by kernel_rfl
  match cs, hlen with
  | [v0, v1, v2], _ =>
    have t0 : DataW.trod enc Tryz.prog w base spare held n' 4 (([v0, v1, v2].drop 0).take (Tryz.prog.cellsOf 4)) = ys[0]? := hf 0 _ rfl
    have t1 : DataW.trod enc Tryz.prog w base spare held n' 2 (([v0, v1, v2].drop 1).take (Tryz.prog.cellsOf 2)) = ys[1]? := hf 1 _ rfl
    have t2 : DataW.trod enc Tryz.prog w base spare held n' 38 (([v0, v1, v2].drop 2).take (Tryz.prog.cellsOf 38)) = ys[2]? := hf 2 _ rfl
    simp only [c0, c1, c2, List.drop_zero, List.take_succ_cons, List.take_zero, List.drop_succ_cons] at t0 t1 t2
    have hys : ys.length = 3 := hyl
    match ys, hys, hy with
    | [y0, y1, y2], _, hy =>
      obtain ⟨b, hb, _⟩ := DataW.trod_bool Tryz.underlying4 t0
      obtain ⟨x, hx, _, hxw⟩ := DataW.trod_int Tryz.underlying2 t1
      injection hb with hb
      injection hx with hx
      subst hb
      subst hx
      have hw2 : ∀ k ∈ y2.1.weights Tryz.prog 38, k ≤ reachBytes := fun k hk => hw k (by
        rw [hy]
        simp only [DataW.weights, Tryz.underlying40]
        exact DataW.weights_mem_each (j := 2) (t := 38) (d := y2.1) rfl rfl k hk)
      obtain ⟨A, c, l, G, rfl, hB, hG, hc, hl, _⟩ := open_bytes2 t2 hw2
      refine ⟨⟨b, x, A, c, l⟩, rfl, ⟨⟨G, hB, hG⟩, Nat.le_trans hl (by decide), ?_⟩, hl, hc⟩
      exact wf_i64 hxw
end Go.Proofs.YtofomopdaponbaaGreatDoor
