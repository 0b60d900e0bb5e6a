/-
  append onto a slice of one's own, out of a slice that may be empty. No program in sight.
-/
import Derived.Test.YtjlnkfbhbiinoaaFoot
import Derived.Deep.Upon
namespace Go.Proofs.Ytjlnkfbhbiinoaa
open Go.RowKit
set_option linter.unusedVariables false

section
variable {P : Program} (w : World)
theorem run_append_some (t ty e : TypeId) (i : TypeInfo) (z : Value) (size bytes : Nat) (ht : P.underlying t = some (.slice e)) (hi : P.info? e = some i) (hz : i.zero = some z)
    (hsize : i.size = size) (hby : i.bytes = bytes) (hzs : z.cells.size = size) (hsz : 0 < size)
    (F : List Nat) (A : Option Addr) (n c : Nat) (xs : List Value) (hr : Row w e size F A n c xs)
    (ad : Addr) (m cc : Nat) (news : List Value) (hl : news.length = m * size) (hnews : ∀ j u, news[j]? = some u → w.cell? (ad.add j) = some u) (h1 : ∀ u ∈ news, u.oneCell' = true)
    (h63 : n + m ≤ maxLen) (hbytes : (n + m) * bytes ≤ 140737488355328) :
    ∃ F' A' cap w', (Builtin.append_ #[t, t] ty #[.slice A n c, .slice (some ad) m cc]).run P w = .ok (.slice A' (n + m) cap) w' ∧
      Row w' e size F' A' (n + m) cap (xs ++ news) ∧ Only F w w' ∧ (∀ k ∈ F', k ∈ F ∨ w.heap.size ≤ k) := by
  by_cases hm : 0 < m
  · obtain ⟨g, cap, w', hrun, h2, h3, h4⟩ := run_append_row (P := P) w t ty e i z size bytes ht hi hz hsize hby hzs hsz F A n c xs hr ad m cc news hl hnews h1 hm h63 hbytes
    refine ⟨[g], _, cap, w', hrun, h2, h3, ?_⟩
    intro k hk
    have : k = g := by simpa using hk
    subst this
    exact h4
  · have hm0 : m = 0 := by omega
    subst hm0
    have hnl : news = [] := by
      apply List.eq_nil_of_length_eq_zero
      rw [hl, Nat.zero_mul]
    subst hnl
    refine ⟨F, A, c, w, ?_, ?_, Only.refl F w, fun k hk => .inl hk⟩
    · rw [Nat.add_zero]
      exact run_append_nothing w t t ty e i ht hi A n c hr.le.1 _ (Src.ofSlice w ht ad 0 cc [] (by simp) hnews (by simp))
    · rw [Nat.add_zero, List.append_nil]
      exact hr
theorem step_append_some {ops : Array Oper} {o : Oper} {a : Act} {K : Act → World → Prop} {Q : Exit → Act → World → Prop} {E : Prop} (hgd : o.guard = none) (s x : Operand) (t : TypeId)
    (ho : o.op = .call { callee := .builtin .append, args := #[s, x], argTypes := #[t, t] })
    (e : TypeId) (i : TypeInfo) (z : Value) (size bytes : Nat) (ht : P.underlying t = some (.slice e)) (hi : P.info? e = some i) (hz : i.zero = some z)
    (hsize : i.size = size) (hby : i.bytes = bytes) (hzs : z.cells.size = size) (hsz : 0 < size)
    (F : List Nat) (A : Option Addr) (n c : Nat) (xs : List Value) (hs : a.eval s = .slice A n c) (hr : Row w e size F A n c xs)
    (ad : Addr) (m cc : Nat) (news : List Value) (hx : a.eval x = .slice (some ad) m cc) (hl : news.length = m * size) (hnews : ∀ j u, news[j]? = some u → w.cell? (ad.add j) = some u) (h1 : ∀ u ∈ news, u.oneCell' = true)
    (h63 : n + m ≤ maxLen) (hbytes : (n + m) * bytes ≤ 140737488355328)
    (h : ∀ F' A' cap w', Row w' e size F' A' (n + m) cap (xs ++ news) → Only F w w' → (∀ k ∈ F', k ∈ F ∨ w.heap.size ≤ k) → K (a.put o.dst (.slice A' (n + m) cap)) w') :
    if Region.wanted o (yielded ops a.tmps) = true then Oper.wp P o a w K Q else E := by
  have hw : Region.wanted o (yielded ops a.tmps) = true := by simp [Region.wanted, hgd]
  rw [if_pos hw]
  obtain ⟨F', A', cap, w', hrun, h2, h3, h4⟩ := run_append_some (P := P) w t o.type e i z size bytes ht hi hz hsize hby hzs hsz F A n c xs hr ad m cc news hl hnews h1 h63 hbytes
  unfold Oper.wp execOp
  simp only [ho, resolve, invoke, builtin, Sem.run_bind, Sem.run_pure, Result.andThen_ok, List.map_toArray, List.map_cons, List.map_nil, hs, hx, hrun]
  exact h F' A' cap w' h2 h3 h4
end
end Go.Proofs.Ytjlnkfbhbiinoaa
