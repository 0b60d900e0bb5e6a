/-
  The source of identifications: New, Next and Busy.
-/
import Derived.Test.YtjlnkfbhbiinoaaIdb
import Derived.Test.YtjlnkfbhbiinoaaIdm
import Derived.Laws.EntriesVeiled
namespace Go.Proofs.Ytjlnkfbhbiinoaa
open Go.RowKit
set_option linter.unusedVariables false
set_option linter.unusedSimpArgs false
attribute [local go_sem ↓] Go.wp_at_zero Go.wp_at_succ

theorem Try.infoI64 : (Try.prog.info? 2).map (fun i => (i.zero, i.size, i.bytes)) = some (some (.int .i64 0), 1, 8) := by kernel_rfl

/-- A source with its space and its life, that gave numbers at the ticks G. -/
def SI (w : World) (S V : Nat) (F : List Nat) (space life : Int) (G : List Int) : Prop :=
  ∃ A n c head xs, SRep w S V F space ((G.length : Int) % space) (lastOf G) life A n c head xs ∧ xs.drop head = busyL life (lastOf G) G ∧ 2 * head ≤ n ∧ Good space life G
def SPost (w : World) (S V : Nat) (F : List Nat) (space life : Int) (G : List Int) (v : Value) : Ending → World → Prop := fun e w' =>
  e = .returned v ∧ ∃ F', SI w' S V F' space life G ∧ Only (S :: V :: F) w w' ∧ ∀ k ∈ F', k ∈ F ∨ w.heap.size ≤ k
theorem SI.only {w w' : World} {S V : Nat} {F E : List Nat} {space life : Int} {G : List Int} (h : SI w S V F space life G) (ho : Only E w w') (hd : ∀ k ∈ S :: V :: F, k ∉ E) : SI w' S V F space life G := by
  obtain ⟨A, n, c, head, xs, h1, h2, h3, h4⟩ := h
  exact ⟨A, n, c, head, xs, h1.only ho hd, h2, h3, h4⟩
theorem SI.lt {w : World} {S V : Nat} {F : List Nat} {space life : Int} {G : List Int} (h : SI w S V F space life G) : ∀ k ∈ S :: V :: F, k < w.heap.size := by
  obtain ⟨A, n, c, head, xs, h1, _⟩ := h
  intro k hk
  rcases List.mem_cons.1 hk with rfl | hk
  · exact h1.b.lt
  · rcases List.mem_cons.1 hk with rfl | hk
    · exact h1.v.lt
    · exact h1.r.lt k hk
theorem SI.good {w : World} {S V : Nat} {F : List Nat} {space life : Int} {G : List Int} (h : SI w S V F space life G) : Good space life G := by
  obtain ⟨A, n, c, head, xs, _, _, _, h4⟩ := h
  exact h4
theorem Row.takeZero {w : World} {e : TypeId} {size : Nat} {F : List Nat} {A : Option Addr} {n c : Nat} {xs : List Value} (h : Row w e size F A n c xs) : Row w e size F A 0 c [] := by
  rcases h with ⟨rfl, rfl, rfl, rfl⟩ | ⟨g, rfl, rfl, h⟩
  · exact .inl ⟨rfl, rfl, rfl, rfl⟩
  · refine .inr ⟨g, rfl, rfl, by simp, ?_⟩
    rcases h.2 with ⟨h, _⟩ | ⟨g', cap, cur, hv, hb, hh, h1, h2, h3, _⟩
    · cases h
    · injection hv with e1 _ e3
      injection e1 with e1
      injection e1 with e1
      subst e1
      subst e3
      exact .inr ⟨g, c, cur, rfl, hb, hh, Nat.zero_le _, h2, h3, by simp⟩

set_option maxRecDepth 100000 in
set_option maxHeartbeats 800000 in
theorem newIdent_no (space life : Int) (w : World) (h : space < 1 ∨ 4294967296 < space ∨ life < 0 ∨ 4294967296 < life) :
    Calls Try.prog 46 #[.int .i64 space, .int .i64 life] w fun e w' => e = .returned (.tuple #[.pointer none, .int .i64 1]) ∧ w = w' := by
  by_cases ha : space < 1
  · clear h
    go_enter Try.func46, Try.ntmps46
    go_wp2_with fail
    go_ret2
    exact ⟨rfl, rfl⟩
  · by_cases hb : 4294967296 < space
    · clear h
      go_enter Try.func46, Try.ntmps46
      go_wp2_with fail
      go_ret2
      exact ⟨rfl, rfl⟩
    · by_cases hc : life < 0
      · clear h
        go_enter Try.func46, Try.ntmps46
        go_wp2_with fail
        go_ret2
        exact ⟨rfl, rfl⟩
      · have hd : 4294967296 < life := by omega
        clear h
        go_enter Try.func46, Try.ntmps46
        go_wp2_with fail
        go_ret2
        exact ⟨rfl, rfl⟩

set_option maxRecDepth 100000 in
set_option maxHeartbeats 800000 in
theorem newIdent_ok (space life : Int) (w : World) (h1 : 1 ≤ space) (h2 : space ≤ 4294967296) (h3 : 0 ≤ life) (h4 : life ≤ 4294967296) :
    Calls Try.prog 46 #[.int .i64 space, .int .i64 life] w fun e w' => e = .returned (.tuple #[.pointer (some ⟨w.heap.size, 0, none⟩), .int .i64 0]) ∧ SI w' w.heap.size (w.heap.size + 1) [] space life [] ∧ Only [] w w' ∧ w'.heap.size = w.heap.size + 1 + 1 := by
  have HB := Lib.hid ((Blk.new w 134 #[.int .i64 space, .int .i64 0, .int .i64 0, .int .i64 life, .slice none 0 0, .int .i64 0, .func (.func 56) #[] #[.pointer (some ⟨w.heap.size + 1, 0, none⟩)]]).alloc (.cells #[.pointer (some ⟨w.heap.size, 0, none⟩)] 77))
  have HV := Lib.hid (Blk.new (w.alloc (.cells #[.int .i64 space, .int .i64 0, .int .i64 0, .int .i64 life, .slice none 0 0, .int .i64 0, .func (.func 56) #[] #[.pointer (some ⟨w.heap.size + 1, 0, none⟩)]] 134)) 77 #[.pointer (some ⟨w.heap.size, 0, none⟩)])
  rw [World.size_alloc] at HV
  go_enter Try.func46, Try.ntmps46
  go_wp2_with fail
  go_ret2
  refine ⟨rfl, ⟨none, 0, 0, 0, [], ⟨HB.out, HV.out, Row.nil _ _ _ _, rfl, Nat.le_refl _, by omega⟩, by simp [busyL], by omega, Good.new h1 h2 h3 h4⟩, ((Only.refl [] w).alloc _).alloc _, by rw [World.size_alloc, World.size_alloc]⟩

section
variable {w : World} {S V : Nat} {F : List Nat} {space life now : Int} {G : List Int}
theorem pair_true {a b : Bool} (h1 : a = true) (h2 : b = true) : (a && b) = true := by simp [h1, h2]

set_option maxRecDepth 100000 in
set_option maxHeartbeats 1600000 in
/-- The clock's rule says no. -/
theorem next_no (h : SI w S V F space life G) (hm : idMay G now = false) :
    Calls Try.prog 48 #[.pointer (some ⟨S, 0, none⟩), .int .i64 now] w (SPost w S V F space life G (.tuple #[.int .u32 0, .int .i64 1])) := by
  have HS := Lib.hid h
  obtain ⟨A, n, c, head, xs, hr, _, _, hg⟩ := h
  have hm2 : (decide (lastOf G ≤ now) && decide (now ≤ 1099511627776)) = false := hm
  have HM := Lib.hid hm2; clear hm hm2
  have e6 : w.cell? ⟨S, 6, none⟩ = some (.func (.func 56) #[] #[.pointer (some ⟨V, 0, none⟩)]) := hr.b.cell 6
  have e2 : w.cell? ⟨S, 2, none⟩ = some (.int .i64 (lastOf G)) := hr.b.cell 2
  have HV := Lib.hid hr.v
  clear hr hg
  go_enter Try.func48, Try.ntmps48
  go_wp2_with fail
  refine (may_any S V (lastOf G) now #[] _ HV.out e2).mono ?_
  rintro e w' ⟨rfl, rfl⟩
  rw [HM.out]
  go_wp2_with fail
  go_ret2
  exact ⟨rfl, F, HS.out, Only.refl _ _, fun k hk => .inl hk⟩

set_option maxRecDepth 100000 in
set_option maxHeartbeats 1600000 in
/-- No number is free. -/
theorem next_full (h : SI w S V F space life G) (hm : idMay G now = true) (hf : idFull space life G now = true) :
    Calls Try.prog 48 #[.pointer (some ⟨S, 0, none⟩), .int .i64 now] w (SPost w S V F space life G (.tuple #[.int .u32 0, .int .i64 120])) := by
  have HS := Lib.hid h
  obtain ⟨A, n, c, head, xs, hr, hx, h2, hg⟩ := h
  have hm2 : (decide (lastOf G ≤ now) && decide (now ≤ 1099511627776)) = true := hm
  have HM := Lib.hid hm2
  simp only [Bool.and_eq_true, decide_eq_true_eq] at hm2
  obtain ⟨hn1, hn2⟩ := hm2
  have hn0 := hg.last
  have e6 : w.cell? ⟨S, 6, none⟩ = some (.func (.func 56) #[] #[.pointer (some ⟨V, 0, none⟩)]) := hr.b.cell 6
  have e2 : w.cell? ⟨S, 2, none⟩ = some (.int .i64 (lastOf G)) := hr.b.cell 2
  have HV := Lib.hid hr.v
  have hasc : (xs.drop head).Pairwise (· ≤ ·) := by rw [hx]; exact hg.asc.filter _
  have hbd : ∀ y ∈ xs.drop head, 0 ≤ y ∧ y ≤ 1099511627776 := by rw [hx]; intro y hy; exact hg.bd y (List.mem_filter.1 hy).1
  have HFR := Lib.hid (free_any S V F space _ _ life now A n c head xs w hr hasc hbd (by omega) hn2)
  have HR := Lib.hid hr
  have HX := Lib.hid hx
  have HG := Lib.hid hg
  have hlen := hr.len
  have hhd := hr.hd
  have hbig := hr.big
  have hln : (xs.drop head).length = n - head := by rw [List.length_drop, hlen]
  have HLN := Lib.hid hln
  have HF := Lib.hid hf
  clear hr hx hg hasc hbd hlen hln hm hf
  go_enter Try.func48, Try.ntmps48
  go_wp2_with fail
  refine (may_any S V (lastOf G) now #[] _ HV.out e2).mono ?_
  rintro e w' ⟨rfl, rfl⟩
  rw [HM.out]
  go_wp2_with fail
  refine HFR.out.mono ?_
  rintro e w1 ⟨K, rfl, hK, hb1, hb2, ho⟩
  have hB := busyL_drop hn1 (by rw [← HX.out]; exact hb1) (by rw [← HX.out]; exact hb2)
  have hBl : ((busyL life now G).length : Int) = (n : Int) - ((head : Int) + (K : Int)) := by
    rw [← hB, ← HX.out, List.length_drop, HLN.out]
    have := HLN.out
    omega
  have hK2 : head + K ≤ n := by have := HLN.out; omega
  have hsp : space ≤ (n : Int) - ((head : Int) + (K : Int)) := by have := HF.out; unfold idFull at this; simp only [decide_eq_true_eq] at this; omega
  have HO := Lib.hid ho
  have d0 := ho.cell (HR.out.b.cell 0) (by simp)
  have d4 := ho.cell (HR.out.b.cell 4) (by simp)
  clear hB hBl hb1 hb2 hK ho
  go_wp2_with fail
  go_quiet (fail)
  go_wp2_with fail
  go_ret2
  exact ⟨rfl, F, (HS.out.only HO.out (by simp)).only ((Only.refl [] w1).drewN nq) (by simp), (HO.out.drewN nq).mono (by simp), fun k hk => .inl hk⟩
end
end Go.Proofs.Ytjlnkfbhbiinoaa
