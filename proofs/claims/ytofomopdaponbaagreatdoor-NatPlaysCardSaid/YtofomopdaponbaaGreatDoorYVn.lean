/-
  Small words for walks: a cond whose test is known.
-/
import Derived.Test.YtofomopdaponbaaGreatDoorZa
namespace Go.Proofs.YtofomopdaponbaaGreatDoor
open Go.RowKit
theorem vc.T {P : Program} {n : Nat} {c : Operand} {a b : Code} {N : Fr → World → Prop} {X : Exit → Fr → World → Prop} {ρ : Fr} {w : World} (e : ev ρ c = .bool true) (h : vc P n a N X ρ w) : vc P n (.cond c a b) N X ρ w := by
  unfold vc
  rw [e]
  exact h
theorem vc.N {P : Program} {n : Nat} {c : Operand} {a b : Code} {N : Fr → World → Prop} {X : Exit → Fr → World → Prop} {ρ : Fr} {w : World} (e : ev ρ c = .bool false) (h : vc P n b N X ρ w) : vc P n (.cond c a b) N X ρ w := by
  unfold vc
  rw [e]
  exact h
theorem vc.S {P : Program} {n : Nat} {N : Fr → World → Prop} {X : Exit → Fr → World → Prop} {ρ : Fr} {w : World} (h : N ρ w) : vc P n .skip N X ρ w := h
/-- The cond's test fails, its other way is empty. -/
theorem vc.NS {P : Program} {n : Nat} {c : Operand} {a : Code} {N : Fr → World → Prop} {X : Exit → Fr → World → Prop} {ρ : Fr} {w : World} (e : ev ρ c = .bool false) (h : N ρ w) : vc P n (.cond c a .skip) N X ρ w := vc.N e h
/-- Of what lies behind a region that draws only this is known. -/
theorem VDraw.cut {P : Program} {n : Nat} {ops : Array Oper} {N : Fr → World → Prop} {ρ : Fr} {w : World} {α : Type} (rs : List (Nat × Nat)) (g : α → List (Nat × Value)) (I : α → World → Prop)
    (hok : covers (dstsOf ops.toList) rs = true) (h : VDraw P n ops (fun ρ' w' => ∃ y, fits ρ' (g y) ∧ I y w') ρ w) (hN : ∀ (y : α) (w' : World) (j : Fr), I y w' → N (head ρ rs (g y) j) w') : VDraw P n ops N ρ w :=
  ⟨fun id a Q hn hd hfr hQ => h.run id a Q hn hd hfr (fun a' w' h1 h2 h3 ⟨y, h4, h5⟩ => hQ a' w' h1 h2 h3 (by
    have := hN y w' (fr a') h5
    rwa [head_eq hok h3 h4] at this))⟩
/-- One step: a sequence, a block; a way out of a block. -/
theorem vc.q {P : Program} {n : Nat} {a b : Code} {N : Fr → World → Prop} {X : Exit → Fr → World → Prop} {ρ : Fr} {w : World} (hj : joins a = false) (h : vc P n a (fun ρ' w' => vc P n b N X ρ' w') X ρ w) : vc P n (.seq a b) N X ρ w := by
  unfold vc
  rw [hj]
  exact h
theorem vc.b {P : Program} {n id : Nat} {b : Code} {N : Fr → World → Prop} {X : Exit → Fr → World → Prop} {ρ : Fr} {w : World} (h : ∀ X' : Exit → Fr → World → Prop, (∀ ρ w, N ρ w → X' (.exit id) ρ w) → (∀ ρ w, X .ret ρ w → X' .ret ρ w) → vc P n b N X' ρ w) : vc P n (.block id b) N X ρ w := by
  unfold vc
  refine h _ (fun ρ w hn => ?_) (fun ρ w hx => hx)
  show (bif Nat.beq id id then N ρ w else X (.exit id) ρ w)
  rw [Nat.beq_refl]
  exact hn
end Go.Proofs.YtofomopdaponbaaGreatDoor
