/-
  The source of identifications: Busy.
-/
import Derived.Test.YtjlnkfbhbiinoaaIdb
import Derived.Test.YtjlnkfbhbiinoaaIdm
import Derived.Test.YtjlnkfbhbiinoaaIdc
import Derived.Laws.EntriesVeiled
namespace Go.Proofs.Ytjlnkfbhbiinoaa
open Go.RowKit
set_option linter.unusedVariables false
set_option linter.unusedSimpArgs false
attribute [local go_sem ↓] Go.wp_at_zero Go.wp_at_succ

section
variable {w : World} {S V : Nat} {F : List Nat} {space life now : Int} {G : List Int}

set_option maxRecDepth 100000 in
set_option maxHeartbeats 1600000 in
/-- The clock's rule says no. -/
theorem busy_no (h : SI w S V F space life G) (hm : idMay G now = false) :
    Calls Try.prog 50 #[.pointer (some ⟨S, 0, none⟩), .int .i64 now] w (SPost w S V F space life G (.tuple #[.int .i64 0, .int .i64 1])) := by
  have HS := Lib.hid h
  obtain ⟨A, n, c, head, xs, hr, _, _, hg⟩ := h
  have hm2 : (decide (lastOf G ≤ now) && decide (now ≤ 1099511627776)) = false := hm
  have HM := Lib.hid hm2; clear hm hm2
  have e6 : w.cell? ⟨S, 6, none⟩ = some (.func (.func 56) #[] #[.pointer (some ⟨V, 0, none⟩)]) := hr.b.cell 6
  have e2 : w.cell? ⟨S, 2, none⟩ = some (.int .i64 (lastOf G)) := hr.b.cell 2
  have HV := Lib.hid hr.v
  clear hr hg
  go_enter Try.func50, Try.ntmps50
  go_wp2_with fail
  refine (may_any S V (lastOf G) now #[] _ HV.out e2).mono ?_
  rintro e w' ⟨rfl, rfl⟩
  rw [HM.out]
  go_wp2_with fail
  go_ret2
  exact ⟨rfl, F, HS.out, Only.refl _ _, fun k hk => .inl hk⟩

set_option maxRecDepth 100000 in
set_option maxHeartbeats 1600000 in
/-- The numbers that are busy. -/
theorem busy_ok (h : SI w S V F space life G) (hm : idMay G now = true) :
    Calls Try.prog 50 #[.pointer (some ⟨S, 0, none⟩), .int .i64 now] w (SPost w S V F space life G (.tuple #[.int .i64 ((busyL life now G).length : Int), .int .i64 0])) := by
  have HS := Lib.hid h
  obtain ⟨A, n, c, head, xs, hr, hx, h2, hg⟩ := h
  have hm2 : (decide (lastOf G ≤ now) && decide (now ≤ 1099511627776)) = true := hm
  have HM := Lib.hid hm2
  simp only [Bool.and_eq_true, decide_eq_true_eq] at hm2
  obtain ⟨hn1, hn2⟩ := hm2
  have hn0 := hg.last
  have e6 : w.cell? ⟨S, 6, none⟩ = some (.func (.func 56) #[] #[.pointer (some ⟨V, 0, none⟩)]) := hr.b.cell 6
  have e2 : w.cell? ⟨S, 2, none⟩ = some (.int .i64 (lastOf G)) := hr.b.cell 2
  have HV := Lib.hid hr.v
  have hasc : (xs.drop head).Pairwise (· ≤ ·) := by rw [hx]; exact hg.asc.filter _
  have hbd : ∀ y ∈ xs.drop head, 0 ≤ y ∧ y ≤ 1099511627776 := by rw [hx]; intro y hy; exact hg.bd y (List.mem_filter.1 hy).1
  have HFR : Hid (∀ W, Only [] w W → Calls Try.prog 57 #[.pointer (some ⟨S, 0, none⟩), .int .i64 now] W (FreePost W head (xs.drop head) now life)) := fun W hW => free_any S V F space _ _ life now A n c head xs W (hr.only hW (by simp)) hasc hbd (by omega) hn2
  have HR := Lib.hid hr
  have HX := Lib.hid hx
  have hlen := hr.len
  have hhd := hr.hd
  have hbig := hr.big
  have hln : (xs.drop head).length = n - head := by rw [List.length_drop, hlen]
  have HLN := Lib.hid hln
  have HLEN := Lib.hid hlen
  clear hr hx hg hasc hbd hlen hln hm
  go_enter Try.func50, Try.ntmps50
  go_wp2_with fail
  refine (may_any S V (lastOf G) now #[] _ HV.out e2).mono ?_
  rintro e w' ⟨rfl, rfl⟩
  rw [HM.out]
  clear e6 e2
  have d4 := HR.out.b.cell 4
  simp only [List.getElem?_toArray, List.getElem?_cons_succ, List.getElem?_cons_zero] at d4
  go_wp2_with fail
  go_region_held3 (fun w' => w'.cell? ⟨S, 4, none⟩ = some (.slice A n c)) (first | go_keep | assumption) (first
      | (go_at_call 57; refine (HFR.out _ (Only.refl [] w).drew).mono ?_; rintro e W3 ⟨K, rfl, hK1, hb1, hb2, ho3⟩; have hkk : head + K ≤ n := (by have := HLN.out; omega); have hwr : IntKind.i64.wrap ((n : Int) - ((head : Int) + (K : Int))) = (n : Int) - ((head : Int) + (K : Int)) := (by rw [IntKind.wrap_i64]; omega); have b9 := ho3.cell (p := ⟨S, 4, none⟩) (show w.drew.cell? _ = _ from d4) (by simp); have HK1 := Lib.hid hb1; have HK2 := Lib.hid hb2; have HO3 := Lib.hid ho3; clear hb1 hb2 ho3))
  go_wp2_with fail
  go_ret2
  have hB := busyL_drop hn1 (by rw [← HX.out]; exact fun y hy => by have := HK1.out y hy; omega) (by rw [← HX.out]; exact HK2.out)
  rw [← HX.out, List.drop_drop] at hB
  have hBl : ((busyL life now G).length : Int) = (n : Int) - ((head : Int) + (K : Int)) := by
    rw [← hB, List.length_drop, HLEN.out]
    omega
  have HOO : Only [] w W3 := (Only.refl [] w).drew.trans HO3.out (by simp)
  exact ⟨by rw [hBl]; try rfl, F, HS.out.only HOO (by simp), HOO.mono (by simp), fun k hk => .inl hk⟩

/-- Whatever is asked. -/
theorem busy_any (h : SI w S V F space life G) :
    Calls Try.prog 50 #[.pointer (some ⟨S, 0, none⟩), .int .i64 now] w (SPost w S V F space life G (.tuple #[.int .i64 (idBusy life G now), .int .i64 (idBusyErr G now)])) := by
  unfold idBusy idBusyErr
  cases hm : idMay G now with
  | true => simp only [if_true]; exact busy_ok h hm
  | false => simp only [Bool.false_eq_true, if_false]; exact busy_no h hm
end
end Go.Proofs.Ytjlnkfbhbiinoaa
