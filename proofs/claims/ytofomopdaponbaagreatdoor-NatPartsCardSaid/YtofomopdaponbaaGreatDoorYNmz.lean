/-
  All mappings by their outside ports (Maps), however many there are.
-/
import Derived.Test.YtofomopdaponbaaGreatDoorYNso
import Derived.Test.YtofomopdaponbaaGreatDoorZad
namespace Go.Proofs.YtofomopdaponbaaGreatDoor
open Go.RowKit
set_option linter.unusedVariables false
set_option linter.unusedSimpArgs false

set_option maxRecDepth 100000 in
theorem byOutK {w : World} {a b : Nm} : Does Tryz.prog 67 [.agg ⟨nmC a⟩, .agg ⟨nmC b⟩] w (fun v w' => v = .int .i64 (cmpI a.out b.out) ∧ ∃ q os', w' = Go.Sort.grow (w.drewN q) os') := by
  have b1 := (Blk.new w 48 ⟨nmC a⟩).alloc (.cells ⟨nmC b⟩ 48)
  have b2 := Blk.new (w.alloc (.cells ⟨nmC a⟩ 48)) 48 ⟨nmC b⟩
  refine Does.enter (fn := Tryz.f67) (by kernel_rfl) rfl (by kernel_rfl) (by kernel_rfl) ?_
  conv => whnf
  refine ⟨_, Loads.one (by kernel_rfl) (b1.at (nmC_out a)), ?_⟩
  conv => whnf
  refine ⟨_, Loads.one (by kernel_rfl) (b2.at (nmC_out b)), ?_⟩
  conv => whnf
  refine compare_does.mono ?_
  rintro v w1 ⟨rfl, rfl⟩
  conv => whnf
  exact ⟨rfl, 0, #[.cells ⟨nmC a⟩ 48, .cells ⟨nmC b⟩ 48], by
    show (w.alloc _).alloc _ = Go.Sort.grow w _
    rw [Go.Sort.alloc_eq_grow, Go.Sort.alloc_eq_grow, Go.Sort.grow_grow]
    rfl⟩
theorem lt_out (x y : Nm) : Go.Proofs.ltOf (fun a b : Nm => cmpI a.out b.out) x y = decide (x.out < y.out) := cmpI_neg _ _
theorem swo_out : Go.Sort.SWO (Go.Proofs.ltOf (fun a b : Nm => cmpI a.out b.out)) where
  irrefl x := by rw [lt_out]; simp
  trans x y z h1 h2 := by rw [lt_out] at *; simp at *; omega
  ntrans x y z h1 h2 := by rw [lt_out] at *; simp at *; omega
theorem one_nm1 (x : Nm) : ∀ u ∈ nmC x, u.oneCell' = true := by
  have h := one_nmCs [x]
  simpa using h
set_option maxRecDepth 100000 in
theorem sortNm_does {w : World} {F : List Nat} {A : Option Addr} {n c : Nat} {z : List Nm} (h : Row w 48 20 F A n c (z.flatMap nmC)) (hn : n ≤ 4294967296) :
    Does Tryz.prog 66 [.slice A n c, .func (.func 67) #[] #[]] w (fun v w' => v = .tuple ⟨[]⟩ ∧ SortPost w w' F A n c z) := by
  by_cases h12 : n ≤ 12
  · exact sort_small h h12
  have hl : z.length = n := h.sl.num nmC_len (by decide)
  obtain ⟨g, cur, rfl, rfl, -⟩ := h.blk (by have := h.le.1; omega)
  haveI : Inhabited Nm := ⟨nm0⟩
  have hs := sortK_does (f := 66) sortNmLaid rfl Tryz.isAgg48 Tryz.sizeOf48 nmC_len one_nm1 swo_out (by kernel_rfl) (enters_of Tryz.func67 (by kernel_rfl) rfl) (fun _ _ _ => byOutK) h hl (by omega)
  refine hs.mono ?_
  rintro v w1 ⟨rfl, z', hp, hso, hr, ho⟩
  refine ⟨rfl, z', hp, ?_, hr, ho⟩
  intro a b hb hab _ _
  have h2 := hso a b hb hab
  have h3 : decide (cmpI z'[b].out (z'[a]'(by omega)).out < 0) = decide (z'[b].out < (z'[a]'(by omega)).out) := cmpI_neg _ _
  have h4 : ¬ z'[b].out < (z'[a]'(by omega)).out := by
    intro h5
    rw [decide_eq_true h5] at h3
    exact h2 (of_decide_eq_true h3)
  omega
set_option maxRecDepth 100000 in
theorem maps_does {w : World} {T : Nat} {s : NatS} {F : List Nat} (h : St w T s F) (ok : okS s) (hn : s.maps.length ≤ 4294967296) :
    Does Tryz.prog 18 [.pointer (some ⟨T, 0, none⟩)] w (fun v w' => ∃ z' A n c G, v = .slice A n c ∧ z'.Perm s.maps ∧ Sorted z' 0 z'.length ∧ Row w' 48 20 G A n c (z'.flatMap nmC) ∧ Only [] w w' ∧ ∀ k ∈ G, w.heap.size ≤ k) := by
  obtain ⟨A1, n1, c1, F1, A2, n2, c2, F2, A3, n3, c3, F3, hb, hr, rfl⟩ := h
  have okc := ok.cf
  have e1 : s.maps.length = n1 := hr.m.sl.num nmC_len (by decide)
  refine Does.enter (fn := Tryz.f18) (by kernel_rfl) rfl (by kernel_rfl) (by kernel_rfl) ?_
  conv => whnf
  refine ⟨_, Loads.one (by kernel_rfl) (hb.ntM okc), ?_⟩
  conv => whnf
  refine (cloneNm_does hr.m.sl (by omega)).mono ?_
  rintro v w2 ⟨A, n, c, G, rfl, hrow, ho2, hG⟩
  have e2 : s.maps.length = n := hrow.sl.num nmC_len (by decide)
  conv => whnf
  refine (sortNm_does hrow (by omega)).mono ?_
  rintro v w3 ⟨rfl, z', hp, hs, hrow3, ho3⟩
  conv => whnf
  exact ⟨z', A, n, c, G, rfl, hp, hs, hrow3, ho2.trans ho3 (fun k hk => .inr (hG k hk)), hG⟩
end Go.Proofs.YtofomopdaponbaaGreatDoor
