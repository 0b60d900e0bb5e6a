/-
  NatShares: what is looked at, in plain words.
-/
import Derived.Test.YtofomopdaponbaaGreatDoorNpv
namespace Go.Proofs.YtofomopdaponbaaGreatDoor
open Go.RowKit
set_option linter.unusedVariables false
set_option linter.unusedSimpArgs false

theorem and255 (c : UInt8) : c &&& 255 = c := by
  apply UInt8.toNat_inj.1
  rw [UInt8.toNat_and]
  show c.toNat &&& 255 = c.toNat
  rw [show (255 : Nat) = 2 ^ 8 - 1 from rfl, Nat.and_two_pow_sub_one_eq_mod]
  have := c.toNat_lt
  omega
/-- What lies inside the document's example. -/
theorem inside10 {c : Cf} {a : Ad} (hn : c.net = fourD 10 0 0 0) (hb : c.bits = 8) (ha : okAd a) (h : insideA c a = true) : a.1 = 4 ∧ a.2.getD 0 0 = 10 := by
  unfold insideA at h
  simp only [Bool.and_eq_true] at h
  have h := h.2
  rw [hn, hb] at h
  unfold withinA at h
  simp only [Bool.and_eq_true, decide_eq_true_eq] at h
  obtain ⟨⟨h1, h2⟩, h3⟩ := h
  unfold maskA at h3
  rw [if_pos h1, if_pos h2] at h3
  obtain ⟨v, l⟩ := a
  obtain ⟨-, -, hl⟩ := ha
  simp only [Prod.mk.injEq] at h3
  refine ⟨h3.1, ?_⟩
  have h4 := congrArg (fun x => x.getD 0 0) h3.2
  have hl0 : 0 < l.length := by simp at hl; omega
  have e1 : (mskL 8 l).getD 0 0 = l.getD 0 0 := by
    have hm : mskB 8 0 = 255 := by decide
    unfold mskL
    simp only [List.getD_eq_getElem?_getD, List.getElem?_mapIdx, List.getElem?_eq_getElem hl0, Option.map_some, Option.getD_some, hm, and255]
  have e2 : (mskL 8 (fourD 10 0 0 0).2).getD 0 0 = 10 := by decide
  rw [e1, e2] at h4
  exact h4
/-- The configuration that NatShares draws. -/
def shC (a b : Int) : Cf := ⟨fourD 10 0 0 0, 8, fourD 192 0 2 1, 4000, a, 100, b, 4, 30⟩
theorem shC_ok (a b : Int) : okCf (shC a b) := ⟨fourD_ok _ _ _ _, fourD_ok _ _ _ _⟩
theorem shC_may {a b : Int} (h1 : 4000 ≤ a) (h2 : a ≤ 65535) (h3 : 1 ≤ b) (h4 : b ≤ 256) : mayB (shC a b) = true := by
  have e : mayB (shC a b) = (decide (a ≤ 65535) && decide ((4000 : Int) ≤ a) && betweenI b 1 256) := by
    unfold mayB
    have k1 : decide ((shC a b).net.1 = 4) = true := rfl
    have k2 : decide (maskE (shC a b).net (shC a b).bits = 0) = true := by kernel_rfl
    have k3 : decide (maskA (shC a b).net (shC a b).bits = (shC a b).net) = true := by kernel_rfl
    have k4 : decide ((shC a b).outside.1 = 4) = true := rfl
    have k5 : decide (kindA (shC a b).outside = 5) = true := by kernel_rfl
    have k6 : withinA (shC a b).outside (shC a b).net (shC a b).bits = false := by kernel_rfl
    have k7 : decide (1 ≤ (shC a b).first) = true := by kernel_rfl
    have k8 : betweenI (shC a b).life 1 1099511627776 = true := by kernel_rfl
    have k9 : betweenI (shC a b).hold 1 1099511627776 = true := by kernel_rfl
    have k10 : betweenI (shC a b).parts 1 64 = true := by kernel_rfl
    rw [k1, k2, k3, k4, k5, k6, k7, k8, k9, k10]
    simp only [shC, Bool.true_and, Bool.not_false, Bool.and_true]
    rfl
  rw [e, decide_eq_true h2, decide_eq_true h1]
  unfold betweenI
  rw [decide_eq_true (show b ≥ 1 by omega), decide_eq_true h4]
  rfl
theorem new_inv {c : Cf} (ok : okCf c) (h : mayB c = true) : Inv 0 (newS c) := by
  have hl : 1 ≤ c.life := by
    unfold mayB betweenI at h
    simp only [Bool.and_eq_true, decide_eq_true_eq] at h
    exact h.1.1.1.2.1
  exact ⟨new_ok ok h, rfl, Int.le_refl _, by decide, hl, by simp [newS], by simp [newS], by simp [newS]⟩
/-- The mappings in order: the ports climb, no end is there twice. -/
theorem climbs {z z' : List Nm} (hp : z'.Perm z) (hs : Sorted z' 0 z'.length) (ho : (z.map (·.out)).Nodup) {i j : Nat} (hj : j < z'.length) (hij : i < j) : (z'[i]'(by omega)).out < z'[j].out := by
  have h1 := hs i j hj hij (Nat.zero_le _) hj
  have h2 : (z'[i]'(by omega)).out ≠ z'[j].out := by
    intro e
    have hn : (z'.map (·.out)).Nodup := ((hp.map _).nodup_iff).2 ho
    refine List.pairwise_iff_getElem.1 hn i j (by rw [List.length_map]; omega) (by rw [List.length_map]; exact hj) hij ?_
    rw [List.getElem_map, List.getElem_map]
    exact e
  omega
theorem apart_ends {z z' : List Nm} (hp : z'.Perm z) (he : (z.map (fun m => (m.addr, m.port))).Nodup) {i j : Nat} (hj : j < z'.length) (hij : i < j) : ¬ ((z'[i]'(by omega)).addr = z'[j].addr ∧ (z'[i]'(by omega)).port = z'[j].port) := by
  rintro ⟨e1, e2⟩
  have hn : (z'.map (fun m => (m.addr, m.port))).Nodup := ((hp.map _).nodup_iff).2 he
  refine List.pairwise_iff_getElem.1 hn i j (by rw [List.length_map]; omega) (by rw [List.length_map]; exact hj) hij ?_
  rw [List.getElem_map, List.getElem_map, e1, e2]
end Go.Proofs.YtofomopdaponbaaGreatDoor
