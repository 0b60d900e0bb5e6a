/-
  A slice among the arguments, whatever its elements: what a walk is told of it. No program in sight.
-/
import Derived.Test.YtofomopdaponbaaGreatDoorFoot
import Derived.ProofKit
import Derived.OpenShut
import Derived.ChangeOld
import Derived.SizedLaws
import Derived.Deep.Slices
import Derived.Deep.Fields
namespace Go.Proofs.YtofomopdaponbaaGreatDoor
open Go.ChangeShapes Go.WideShapes Go.ChangeAt Go.RowKit Go.Deep
set_option linter.unusedVariables false
set_option linter.unusedSimpArgs false

/-- The slice value '.slice A n _' that came in holds the cells xs, 'size' cells an element. -/
def Arg (w : World) (size : Nat) (A : Option Addr) (n : Nat) (xs : List Value) : Prop :=
  xs.length = n * size ∧ (0 < n → ∃ b off, A = some ⟨b, off, none⟩ ∧ b < w.heap.size ∧ ∀ j u, xs[j]? = some u → w.cell? ⟨b, off + j, none⟩ = some u)

theorem Arg.only {w w' : World} {size n : Nat} {A : Option Addr} {xs : List Value} {F : List Nat} (h : Arg w size A n xs) (ho : Only F w w') {B : Nat} (hw : ∀ b off, A = some ⟨b, off, none⟩ → b < B) (hF : ∀ k ∈ F, B ≤ k) : Arg w' size A n xs := by
  refine ⟨h.1, fun hn => ?_⟩
  obtain ⟨b, off, hA, hb, hc⟩ := h.2 hn
  have hbB := hw b off hA
  refine ⟨b, off, hA, Nat.lt_of_lt_of_le hb ho.size, fun j u hu => ho.cell (hc j u hu) (fun hm => ?_)⟩
  have := hF b hm
  omega
theorem Arg.below {w w' : World} {size n : Nat} {A : Option Addr} {xs : List Value} (h : Arg w size A n xs) (hb : Below w.heap.size w w') : Arg w' size A n xs := by
  refine ⟨h.1, fun hn => ?_⟩
  obtain ⟨b, off, hA, hlt, hc⟩ := h.2 hn
  exact ⟨b, off, hA, Nat.lt_of_lt_of_le hlt hb.size, fun j u hu => (hb.cell (p := ⟨b, off + j, none⟩) hlt).trans (hc j u hu)⟩

theorem gather {α : Type} (enc : α → List Value) (size : Nat) (Q : α → Prop) : ∀ (n : Nat) (xs : List Value), xs.length = n * size →
    (∀ i, i < n → ∃ o, (xs.drop (i * size)).take size = enc o ∧ Q o) → ∃ z : List α, z.length = n ∧ xs = z.flatMap enc ∧ ∀ o ∈ z, Q o := by
  intro n
  induction n with
  | zero => intro xs hl _; exact ⟨[], rfl, List.eq_nil_of_length_eq_zero (by simpa using hl), by simp⟩
  | succ n ih =>
    intro xs hl h
    obtain ⟨o, ho, hq⟩ := h 0 (by omega)
    obtain ⟨z, hz, hxs, hall⟩ := ih (xs.drop size) (by rw [List.length_drop, hl, Nat.add_mul]; omega) (fun i hi => by
      obtain ⟨o, ho, hq⟩ := h (i + 1) (by omega)
      refine ⟨o, ?_, hq⟩
      rw [List.drop_drop, ← ho, show size + i * size = (i + 1) * size by rw [Nat.add_mul]; omega])
    refine ⟨o :: z, by simp [hz], ?_, ?_⟩
    · rw [List.flatMap_cons, ← hxs, ← ho]
      simp
    · intro p hp
      rcases List.mem_cons.1 hp with rfl | hp
      · exact hq
      · exact hall p hp

section
variable {H : Type} {enc : TypeId × Value → H} {P : Program} {w : World} {base : Nat} {spare : Nat → Bool} {held : Bool}
theorem open_arg {t e : TypeId} {fuel size n c : Nat} {A : Option Addr} {x : DataW H × List MemPlace} (ht : P.underlying t = some (.slice e)) (hC : P.cellsOf e = size) (hs : 0 < size)
    (h : DataW.trod enc P w base spare held fuel t [.slice A n c] = some x) :
    n ≤ c ∧ c ≤ maxLen ∧ (∃ xs, Arg w size A n xs ∧ ∀ i, i < n → ∃ m y, DataW.trod enc P w base spare held m e ((xs.drop (i * size)).take size) = some y) ∧
    ((x.1 = .nil ∧ c = 0) ∨ ∃ elems spr, x.1 = .slice elems spr ∧ elems.length = n ∧ ((∀ b, spare b = true) → elems.length + spr.length = c)) := by
  rcases open_slice ht h with ⟨hcs, rfl⟩ | ⟨a, len, cap, m, k, D, Pl, hcs, _, hl, hm, hmm, rfl, hi⟩
  · simp only [List.cons.injEq, Value.slice.injEq, and_true] at hcs
    obtain ⟨rfl, rfl, rfl⟩ := hcs
    exact ⟨Nat.le_refl _, Nat.zero_le _, ⟨[], ⟨by simp, fun h => absurd h (by omega)⟩, fun i hi => absurd hi (by omega)⟩, .inl ⟨rfl, rfl⟩⟩
  · simp only [List.cons.injEq, Value.slice.injEq, and_true] at hcs
    obtain ⟨rfl, rfl, rfl⟩ := hcs
    subst hC
    have hnm : n ≤ m := by rw [hmm]; split <;> omega
    have hcell : ∀ j, j < n * P.cellsOf e → ∃ u, w.cell? (a.add j) = some u := by
      intro j hj
      have hi1 : j / P.cellsOf e < n := Nat.div_lt_of_lt_mul (by rw [Nat.mul_comm]; exact hj)
      obtain ⟨cs', hc, _⟩ := hi (j / P.cellsOf e) (by omega)
      obtain ⟨_, hcl, hat⟩ := World.cells?_some hc
      have hmod := Nat.mod_lt j hs
      have h1 := hat (j % P.cellsOf e) hmod
      rw [Go.Deep.add_add, Nat.mul_comm, Nat.div_add_mod] at h1
      exact ⟨cs'[j % P.cellsOf e]'(by omega), by rw [h1, List.getElem?_eq_getElem (by omega)]⟩
    refine ⟨hl, hm, ⟨(List.range (n * P.cellsOf e)).map fun j => (w.cell? (a.add j)).getD undef, ⟨by simp, fun hn => ?_⟩, fun i hin => ?_⟩, .inr ⟨_, _, rfl, by simp, fun hsp => ?_⟩⟩
    · have h00 : 0 < n * P.cellsOf e := Nat.mul_pos hn hs
      obtain ⟨u0, h0⟩ := hcell 0 h00
      obtain ⟨b, off, spot⟩ := a
      have hspot : spot = none := by
        cases spot with
        | none => rfl
        | some s =>
          exfalso
          simp only [Addr.add, World.cell?] at h0
          split at h0 <;> simp at h0
      subst hspot
      refine ⟨b, off, rfl, ?_, fun j u hu => ?_⟩
      · have := World.block_lt_of_cell? _ _ h0
        simpa [Addr.add] using this
      · have hj : j < n * P.cellsOf e := by
          have := (List.getElem?_eq_some_iff.1 hu).1
          simpa using this
        obtain ⟨v, hv⟩ := hcell j hj
        rw [List.getElem?_map, List.getElem?_range hj] at hu
        simp only [Option.map_some, hv, Option.getD_some, Option.some.injEq] at hu
        rw [Addr.add_lit] at hv
        rw [hv, hu]
    · obtain ⟨cs', hc, hx⟩ := hi i (by omega)
      obtain ⟨_, hcl, hat⟩ := World.cells?_some hc
      refine ⟨k, (D i, Pl i), ?_⟩
      · rw [← hx]
        congr 1
        have hle : (i + 1) * P.cellsOf e ≤ n * P.cellsOf e := Nat.mul_le_mul_right _ (by omega)
        rw [Nat.add_mul] at hle
        apply List.ext_getElem?
        intro j
        by_cases hj : j < P.cellsOf e
        · rw [List.getElem?_take_of_lt hj, List.getElem?_drop, List.getElem?_map, List.getElem?_range (by omega)]
          have h1 := hat j hj
          rw [Go.Deep.add_add] at h1
          simp only [Option.map_some]
          rw [h1, List.getElem?_eq_getElem (by omega)]
          rfl
        · rw [List.getElem?_eq_none (by simp; omega), List.getElem?_eq_none (by omega)]
    · have := hsp a.block
      rw [this] at hmm
      simp at hmm
      simp
      omega

/-- The fields of a struct whose fields have one cell each. -/
theorem open_fields {t : TypeId} {fs : Array Field} {fuel : Nat} {cs : List Value} {x : DataW H × List MemPlace} (ht : P.underlying t = some (.struct fs)) (hone : oneCellFields P fs = true) (hC : P.cellsOf t = fs.size)
    (h : DataW.trod enc P w base spare held fuel t cs = some x) :
    cs.length = fs.size ∧ ∀ (i : Nat) (f : Field), fs[i]? = some f → ∃ v m y, cs[i]? = some v ∧ DataW.trod enc P w base spare held m f.type [v] = some y := by
  obtain ⟨ys, n', _, _, hlen, hyl, hf⟩ := DataW.trod_struct ht h
  refine ⟨hlen.trans hC, fun i f hi => ?_⟩
  obtain ⟨ho, hk⟩ := hone_of hone i f hi
  have hil : i < fs.size := (Array.getElem?_eq_some_iff.1 hi).1
  have h1 := hf i f hi
  have hil2 : i < cs.length := by rw [hlen, hC]; exact hil
  rw [ho, hk, List.drop_eq_getElem_cons hil2, List.getElem?_eq_getElem (by omega), List.take_succ_cons, List.take_zero] at h1
  exact ⟨cs[i], n', ys[i], List.getElem?_eq_getElem hil2, h1⟩
end
end Go.Proofs.YtofomopdaponbaaGreatDoor
