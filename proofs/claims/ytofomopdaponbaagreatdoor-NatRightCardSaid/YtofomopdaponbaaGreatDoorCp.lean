/-
  copy into a part of a block that is known whole. No program in sight.
-/
import Derived.Laws.CopyRow
import Derived.Test.YtofomopdaponbaaGreatDoorAp
namespace Go.Proofs.YtofomopdaponbaaGreatDoor
open Go.RowKit
set_option linter.unusedVariables false

theorem vFall.copy {P : Program} {w : World} {o : Oper} {ρ : Operand → Value} {K : Value → World → Prop} {x y : Operand} {t t' e te : TypeId} {g off n c m cc : Nat} {old : List Value} {l : List UInt8} {B : Option Addr} {G : List Nat}
    (ho : o.op = .call { callee := .builtin .copy, args := #[x, y], argTypes := #[t, t'] }) (hu : P.underlying t = some (.slice e)) (hs1 : (P.info? e).map (·.size) = some 1)
    (hx : ρ x = .slice (some ⟨g, off, none⟩) n c) (hb : Blk w g te ⟨old⟩) (hy : ρ y = .slice B m cc) (hS : Bs w G B m l) (hm : 0 < m) (hfit : off + n ≤ old.length)
    (hK : ∀ w', Blk w' g te ⟨splice old off ((l.take n).map u8)⟩ → Only [g] w w' → w'.heap.size = w.heap.size → K (.int .i64 ((Nat.min m n : Nat) : Int)) w') : vFall P o ρ w K := by
  have hl := hS.len
  obtain ⟨b, o2, rfl, -⟩ := hS.some_ hm
  have hlen : ((l.take n).map u8).length = Nat.min m n := by
    rw [List.length_map, List.length_take, hl]
    exact Nat.min_comm _ _
  have hsrc : ∀ j v, ((l.take n).map u8)[j]? = some v → w.cell? ((⟨b, o2, none⟩ : Addr).add j) = some v := by
    intro j v hv
    rw [List.getElem?_map] at hv
    cases hj : (l.take n)[j]? with
    | none => rw [hj] at hv; cases hv
    | some c =>
      rw [hj] at hv
      obtain rfl : u8 c = v := by simpa using hv
      rw [add_plain]
      refine hS.ld ?_
      rw [List.getElem?_take] at hj
      split at hj
      · exact hj
      · cases hj
  have hr := run_copy_row (P := P) w t t' o.type e g off n c ⟨b, o2, none⟩ m cc ⟨old⟩ te ((l.take n).map u8) hu hs1 hb hlen hsrc
    (by rw [hlen]; exact Nat.le_trans (Nat.add_le_add_left (Nat.min_le_right _ _) _) hfit)
    (by intro v hv; obtain ⟨c, _, rfl⟩ := List.mem_map.1 hv; rfl)
  have hrun : (execOp ρ o).run P w = .ok (.value (.int .i64 ((Nat.min m n : Nat) : Int))) (w.setRow g (old.take off ++ (l.take n).map u8 ++ old.drop (off + ((l.take n).map u8).length)).toArray) := by
    unfold execOp
    simp only [ho, resolve, invoke, builtin, Sem.run_bind, Sem.run_pure, Result.andThen_ok, List.map_toArray, List.map_cons, List.map_nil, hx, hy, hr, goInt, hlen]
  refine ⟨_, _, ⟨hrun⟩, hK _ ?_ ⟨rfl, rfl, rfl, by rw [setRow_size]; exact Nat.le_refl _, fun k _ hk => ?_⟩ (setRow_size _ _ _)⟩
  · have := setRow_heap w g ⟨old⟩ (old.take off ++ (l.take n).map u8 ++ old.drop (off + ((l.take n).map u8).length)).toArray te (0, 0) hb
    have e : (old.take off ++ (l.take n).map u8 ++ old.drop (off + ((l.take n).map u8).length)).toArray = ⟨splice old off ((l.take n).map u8)⟩ := by
      unfold splice
      rw [List.append_assoc]
    rw [e] at this
    rw [e]
    exact this
  · exact setRow_other w g k _ (by simpa using hk)
/-- clear of the end of a block that is known whole: the head stays. -/
theorem vFall.clear {P : Program} {w : World} {o : Oper} {ρ : Operand → Value} {K : Value → World → Prop} {x : Operand} {t e te : TypeId} {g off n c size : Nat} {old : List Value} {z : Value}
    (ho : o.op = .call { callee := .builtin .clear, args := #[x], argTypes := #[t] }) (hu : P.underlying t = some (.slice e)) (hz : zeroOf P e = some z) (hzs : z.cells.size = size) (h1 : ∀ u ∈ z.cells.toList, isOne u = true)
    (hx : ρ x = .slice (some ⟨g, off, none⟩) n c) (hb : Blk w g te ⟨old⟩) (hfit : off + n * size ≤ old.length)
    (hK : ∀ w' new, Blk w' g te ⟨new⟩ → new.length = old.length → new.take off = old.take off → Only [g] w w' → w'.heap.size = w.heap.size → K (.tuple #[]) w') : vFall P o ρ w K := by
  have hlen : (Builtin.zeroCells z.cells n).toList.length = n * size := by simp [Builtin.zeroCells, hzs]
  have hall : ∀ u ∈ (Builtin.zeroCells z.cells n).toList, isOne u = true := by
    intro u hu
    simp only [Builtin.zeroCells, Array.toList_map, List.mem_map, Array.mem_toList_iff, Array.mem_range] at hu
    obtain ⟨i, hi, rfl⟩ := hu
    have hpos : 0 < z.cells.size := by
      rcases Nat.eq_zero_or_pos z.cells.size with h | h
      · rw [h] at hi
        simp at hi
      · exact h
    have hlt := Nat.mod_lt i hpos
    rw [getElem!_pos z.cells (i % z.cells.size) hlt]
    exact h1 _ (by simp)
  obtain ⟨w', hr, hb', ho', hs'⟩ := storeCells_of (P := P) (o := off) _ 0 old w hb (by rw [hlen]; exact hfit) hall
  have hrun : (execOp ρ o).run P w = .ok (.value (.tuple #[])) w' := by
    unfold execOp
    cases n with
    | zero =>
      have e : w = w' := by
        have : (Builtin.zeroCells z.cells 0).toList = [] := by simp [Builtin.zeroCells]
        rw [this] at hr
        simpa [storeCells] using hr
      subst e
      simp only [ho, resolve, invoke, builtin, Sem.run_bind, Sem.run_pure, Result.andThen_ok, List.map_toArray, List.map_cons, List.map_nil, hx]
      simp [Builtin.clear_, run_underlying hu]
    | succ n =>
      simp only [ho, resolve, invoke, builtin, Sem.run_bind, Sem.run_pure, Result.andThen_ok, List.map_toArray, List.map_cons, List.map_nil, hx]
      simp [Builtin.clear_, run_underlying hu, run_zero_of hz, hr]
  refine ⟨_, _, ⟨hrun⟩, hK w' _ hb' ?_ ?_ ho' hs'⟩
  · exact splice_len (by rw [hlen]; exact hfit)
  · unfold splice
    rw [Nat.add_zero, List.take_append_of_le_length (by rw [List.length_take]; omega), List.take_take, Nat.min_self]
end Go.Proofs.YtofomopdaponbaaGreatDoor
