/-
  What comes into the nat's laws: a script of packets, ends, bytes: how they lie in memory.
-/
import Derived.Test.YtofomopdaponbaaGreatDoorYNsh
import Derived.Test.YtofomopdaponbaaGreatDoorZa
import Derived.Test.YtofomopdaponbaaGreatDoorCards
import Derived.Test.YtofomopdaponbaaGreatDoorTie
import Derived.Deep.DeepHandedRow
import Derived.Lib.LaidTab
namespace Go.Proofs.YtofomopdaponbaaGreatDoor
open Go.ChangeShapes Go.WideShapes Go.ChangeAt Go.RowKit Go.Deep
set_option linter.unusedVariables false
set_option linter.unusedSimpArgs false

theorem weights_all {H : Type} {P : Program} {e : TypeId} {d : DataW H} : ∀ {l : List (DataW H)}, d ∈ l → ∀ k ∈ d.weights P e, k ∈ DataW.weightsAll P e l
  | x :: r, h, k, hk => by
    simp only [DataW.weightsAll, List.mem_append]
    rcases List.mem_cons.1 h with rfl | h
    · exact .inl hk
    · exact .inr (weights_all h k hk)
section
variable {H : Type} {enc : TypeId × Value → H} {P : Program} {w : World} {base : Nat} {spare : Nat → Bool} {held : Bool}
theorem open_argW {t e : TypeId} {fuel size n c : Nat} {A : Option Addr} {x : DataW H × List MemPlace} (ht : P.underlying t = some (.slice e)) (hC : P.cellsOf e = size) (hs : 0 < size)
    (h : DataW.trod enc P w base spare held fuel t [.slice A n c] = some x) :
    n ≤ c ∧ c ≤ maxLen ∧ (∃ xs, Arg w size A n xs ∧ ∀ i, i < n → ∃ m y, DataW.trod enc P w base spare held m e ((xs.drop (i * size)).take size) = some y ∧ ∀ k ∈ y.1.weights P e, k ∈ x.1.weights P t) ∧
    ((x.1 = .nil ∧ c = 0) ∨ ∃ elems spr, x.1 = .slice elems spr ∧ elems.length = n ∧ ((∀ b, spare b = true) → elems.length + spr.length = c)) := by
  rcases open_slice ht h with ⟨hcs, rfl⟩ | ⟨a, len, cap, m, k, D, Pl, hcs, _, hl, hm, hmm, rfl, hi⟩
  · simp only [List.cons.injEq, Value.slice.injEq, and_true] at hcs
    obtain ⟨rfl, rfl, rfl⟩ := hcs
    exact ⟨Nat.le_refl _, Nat.zero_le _, ⟨[], ⟨by simp, fun h => absurd h (by omega)⟩, fun i hi => absurd hi (by omega)⟩, .inl ⟨rfl, rfl⟩⟩
  · simp only [List.cons.injEq, Value.slice.injEq, and_true] at hcs
    obtain ⟨rfl, rfl, rfl⟩ := hcs
    subst hC
    have hnm : n ≤ m := by rw [hmm]; split <;> omega
    have hcell : ∀ j, j < n * P.cellsOf e → ∃ u, w.cell? (a.add j) = some u := by
      intro j hj
      have hi1 : j / P.cellsOf e < n := Nat.div_lt_of_lt_mul (by rw [Nat.mul_comm]; exact hj)
      obtain ⟨cs', hc, _⟩ := hi (j / P.cellsOf e) (by omega)
      obtain ⟨_, hcl, hat⟩ := World.cells?_some hc
      have hmod := Nat.mod_lt j hs
      have h1 := hat (j % P.cellsOf e) hmod
      rw [Go.Deep.add_add, Nat.mul_comm, Nat.div_add_mod] at h1
      exact ⟨cs'[j % P.cellsOf e]'(by omega), by rw [h1, List.getElem?_eq_getElem (by omega)]⟩
    refine ⟨hl, hm, ⟨(List.range (n * P.cellsOf e)).map fun j => (w.cell? (a.add j)).getD undef, ⟨by simp, fun hn => ?_⟩, fun i hin => ?_⟩, .inr ⟨_, _, rfl, by simp, fun hsp => ?_⟩⟩
    · have h00 : 0 < n * P.cellsOf e := Nat.mul_pos hn hs
      obtain ⟨u0, h0⟩ := hcell 0 h00
      obtain ⟨b, off, spot⟩ := a
      have hspot : spot = none := by
        cases spot with
        | none => rfl
        | some s =>
          exfalso
          simp only [Addr.add, World.cell?] at h0
          split at h0 <;> simp at h0
      subst hspot
      refine ⟨b, off, rfl, ?_, fun j u hu => ?_⟩
      · have := World.block_lt_of_cell? _ _ h0
        simpa [Addr.add] using this
      · have hj : j < n * P.cellsOf e := by
          have := (List.getElem?_eq_some_iff.1 hu).1
          simpa using this
        obtain ⟨v, hv⟩ := hcell j hj
        rw [List.getElem?_map, List.getElem?_range hj] at hu
        simp only [Option.map_some, hv, Option.getD_some, Option.some.injEq] at hu
        rw [Addr.add_lit] at hv
        rw [hv, hu]
    · obtain ⟨cs', hc, hx⟩ := hi i (by omega)
      obtain ⟨_, hcl, hat⟩ := World.cells?_some hc
      refine ⟨k, (D i, Pl i), ?_, fun q hq => ?_⟩
      · rw [← hx]
        congr 1
        have hle : (i + 1) * P.cellsOf e ≤ n * P.cellsOf e := Nat.mul_le_mul_right _ (by omega)
        rw [Nat.add_mul] at hle
        apply List.ext_getElem?
        intro j
        by_cases hj : j < P.cellsOf e
        · rw [List.getElem?_take_of_lt hj, List.getElem?_drop, List.getElem?_map, List.getElem?_range (by omega)]
          have h1 := hat j hj
          rw [Go.Deep.add_add] at h1
          simp only [Option.map_some]
          rw [h1, List.getElem?_eq_getElem (by omega)]
          rfl
        · rw [List.getElem?_eq_none (by simp; omega), List.getElem?_eq_none (by omega)]
      · simp only [DataW.weights, ht, List.mem_cons, List.mem_append]
        exact .inr (.inl (weights_all (List.mem_map_of_mem (List.mem_range.2 hin)) q hq))
    · have := hsp a.block
      rw [this] at hmm
      simp at hmm
      simp
      omega

end
/-- What the row's list gives: the shapes of the options. -/
theorem shp_of_laid {W : World} (h : Lib.TabIs Tryz.prog W "mosaic/opts.shapes" .i64 [1, 2]) : Shp W :=
  ⟨h.cell (show Tryz.prog.globalNamed "mosaic/opts.shapes" = some 1 by kernel_rfl) 0 (by decide), h.cell (show Tryz.prog.globalNamed "mosaic/opts.shapes" = some 1 by kernel_rfl) 1 (by decide)⟩
theorem Arg.slG {w : World} {size n : Nat} {A : Option Addr} {xs : List Value} (h : Arg w size A n xs) : ∃ G, Sl w size G A n xs ∧ ∀ k ∈ G, k < w.heap.size := by
  by_cases hn : 0 < n
  · obtain ⟨b, off, rfl, hb, hc⟩ := h.2 hn
    exact ⟨[b], ⟨h.1, fun _ => ⟨b, off, rfl, by simp, hb, hc⟩⟩, by simpa using hb⟩
  · exact ⟨[], ⟨h.1, fun h => absurd h hn⟩, by simp⟩
theorem all_u8 {w : World} {H : Type} {enc : TypeId × Value → H} {base : Nat} {spare : Nat → Bool} {held : Bool} : ∀ {n : Nat} {xs : List Value}, xs.length = n →
    (∀ i, i < n → ∃ m y, DataW.trod (H := H) enc Tryz.prog w base spare held m 5 ((xs.drop (i * 1)).take 1) = some y) → ∃ l : List UInt8, xs = l.map u8
  | 0, xs, hl, _ => ⟨[], by simpa using hl⟩
  | n + 1, [], hl, _ => by simp at hl
  | n + 1, v :: xs, hl, h => by
    obtain ⟨l, hx⟩ := all_u8 (xs := xs) (n := n) (by simpa using hl) (fun i hi => by
      obtain ⟨m, y, hy⟩ := h (i + 1) (by omega)
      refine ⟨m, y, ?_⟩
      rw [← hy, show (i + 1) * 1 = i * 1 + 1 by omega, List.drop_succ_cons])
    obtain ⟨m, y, hy⟩ := h 0 (by omega)
    rw [Nat.zero_mul, List.drop_zero, List.take_succ_cons, List.take_zero] at hy
    obtain ⟨x, hv, _, hw⟩ := DataW.trod_int Tryz.underlying5 hy
    injection hv with hv
    subst hv
    refine ⟨UInt8.ofNat x.toNat :: l, ?_⟩
    simp only [Lit.wf, IntKind.min, IntKind.max, IntKind.signed, IntKind.bits, Bool.and_eq_true, decide_eq_true_eq] at hw
    rw [List.map_cons, ← hx]
    congr 1
    simp only [u8, Value.int.injEq, true_and]
    rw [UInt8.toNat_ofNat']
    simp at hw
    omega
/-- Bytes that came in. -/
theorem open_bytes {H : Type} {enc : TypeId × Value → H} {w : World} {base : Nat} {spare : Nat → Bool} {held : Bool} {m : Nat} {v : Value} {y : DataW H × List MemPlace}
    (h : DataW.trod enc Tryz.prog w base spare held m 38 [v] = some y) (hw : ∀ k ∈ y.1.weights Tryz.prog 38, k ≤ reachBytes) :
    ∃ A c l G, v = .slice A (l : List UInt8).length c ∧ Bs w G A l.length l ∧ (∀ k ∈ G, k < w.heap.size) ∧ l.length ≤ c ∧ l.length ≤ 140737488355328 ∧ c ≤ 9223372036854775807 := by
  obtain ⟨A, n, c, rfl⟩ : ∃ A n c, v = .slice A n c := by
    rcases open_slice Tryz.underlying38 h with ⟨hcs, _⟩ | ⟨a, len, cap, _, _, _, _, hcs, _⟩
    · injection hcs with hcs
      exact ⟨_, _, _, hcs⟩
    · injection hcs with hcs
      exact ⟨_, _, _, hcs⟩
  obtain ⟨h1, h2, ⟨xs, hX, hel⟩, hd⟩ := open_arg (size := 1) Tryz.underlying38 (by kernel_rfl) (by decide) h
  obtain ⟨l, rfl⟩ := all_u8 (n := n) (by rw [hX.1]; omega) hel
  have hl : l.length = n := by have := hX.1; simpa using this
  subst hl
  obtain ⟨G, hG, hGl⟩ := hX.slG
  refine ⟨A, c, l, G, rfl, hG, hGl, h1, ?_, h2⟩
  rcases hd with ⟨_, rfl⟩ | ⟨elems, spr, he, hel, _⟩
  · omega
  · rw [he] at hw
    have := hw ((elems.length + spr.length) * Tryz.prog.bytesOf 5) (by simp [DataW.weights, Tryz.underlying38])
    rw [show Tryz.prog.bytesOf 5 = 1 by kernel_rfl] at this
    have e : reachBytes = 140737488351232 := rfl
    omega
set_option maxRecDepth 100000 in
theorem open_op30 {H : Type} {enc : TypeId × Value → H} {w : World} {base : Nat} {spare : Nat → Bool} {held : Bool} {m : Nat} {cs : List Value} {y : DataW H × List MemPlace}
    (h : DataW.trod enc Tryz.prog w base spare held m 40 cs = some y) (hw : ∀ k ∈ y.1.weights Tryz.prog 40, k ≤ reachBytes) : ∃ o : Op30, cs = encOp30 o ∧ OpOk w o := by
  obtain ⟨ys, n', _, hy, hlen, hyl, hf⟩ := DataW.trod_struct Tryz.underlying40 h
  have hc : Tryz.prog.cellsOf 40 = 3 := by kernel_rfl
  rw [hc] at hlen
  have c0 : Tryz.prog.cellsOf 4 = 1 := by kernel_rfl
  have c1 : Tryz.prog.cellsOf 2 = 1 := by kernel_rfl
  have c2 : Tryz.prog.cellsOf 38 = 1 := by kernel_rfl
  match cs, hlen with
  | [v0, v1, v2], _ =>
    have t0 : DataW.trod enc Tryz.prog w base spare held n' 4 (([v0, v1, v2].drop 0).take (Tryz.prog.cellsOf 4)) = ys[0]? := hf 0 _ rfl
    have t1 : DataW.trod enc Tryz.prog w base spare held n' 2 (([v0, v1, v2].drop 1).take (Tryz.prog.cellsOf 2)) = ys[1]? := hf 1 _ rfl
    have t2 : DataW.trod enc Tryz.prog w base spare held n' 38 (([v0, v1, v2].drop 2).take (Tryz.prog.cellsOf 38)) = ys[2]? := hf 2 _ rfl
    simp only [c0, c1, c2, List.drop_zero, List.take_succ_cons, List.take_zero, List.drop_succ_cons] at t0 t1 t2
    have hys : ys.length = 3 := hyl
    match ys, hys, hy with
    | [y0, y1, y2], _, hy =>
      obtain ⟨b, hb, _⟩ := DataW.trod_bool Tryz.underlying4 t0
      obtain ⟨x, hx, _, hxw⟩ := DataW.trod_int Tryz.underlying2 t1
      injection hb with hb
      injection hx with hx
      subst hb
      subst hx
      have hw2 : ∀ k ∈ y2.1.weights Tryz.prog 38, k ≤ reachBytes := fun k hk => hw k (by
        rw [hy]
        simp only [DataW.weights, Tryz.underlying40]
        exact DataW.weights_mem_each (j := 2) (t := 38) (d := y2.1) rfl rfl k hk)
      obtain ⟨A, c, l, G, rfl, hB, hG, _, hl, _⟩ := open_bytes t2 hw2
      refine ⟨⟨b, x, A, c, l⟩, rfl, ⟨G, hB, hG⟩, hl, ?_⟩
      simp only [Lit.wf, IntKind.min, IntKind.max, IntKind.signed, IntKind.bits, Bool.and_eq_true, decide_eq_true_eq] at hxw
      simp at hxw
      exact hxw
end Go.Proofs.YtofomopdaponbaaGreatDoor
