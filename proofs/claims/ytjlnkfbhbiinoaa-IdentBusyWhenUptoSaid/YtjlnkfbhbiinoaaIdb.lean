/-
  The source of identifications: the place of the first number that is busy.
-/
import Derived.Test.YtjlnkfbhbiinoaaIda
namespace Go.Proofs.Ytjlnkfbhbiinoaa
open Go.RowKit
set_option linter.unusedVariables false
set_option linter.unusedSimpArgs false
attribute [local go_sem ↓] Go.wp_at_zero Go.wp_at_succ

set_option maxRecDepth 100000 in
set_option maxHeartbeats 800000 in
theorem free1_any (bn bk bs S q head m cc i : Nat) (y now life : Int) (W : World) (hi : i < m) (hm : m ≤ 1099511627776) (hn : W.cell? ⟨bn, 0, none⟩ = some (.int .i64 now)) (hk : W.cell? ⟨bk, 0, none⟩ = some (.slice (some ⟨q, head, none⟩) m cc))
    (hs : W.cell? ⟨bs, 0, none⟩ = some (.pointer (some ⟨S, 0, none⟩))) (hl : W.cell? ⟨S, 3, none⟩ = some (.int .i64 life)) (hy : W.cell? ⟨q, head + i, none⟩ = some (.int .i64 y))
    (h1 : 0 ≤ y) (h2 : y ≤ 1099511627776) (h3 : 0 ≤ now) (h4 : now ≤ 1099511627776) :
    Calls Try.prog 60 #[.int .i64 i, .pointer (some ⟨bn, 0, none⟩), .pointer (some ⟨bk, 0, none⟩), .pointer (some ⟨bs, 0, none⟩)] W fun e w' => e = .returned (.bool (decide (now - y < life))) ∧ Only [] W w' := by
  have k1 : (i : Int) < (m : Int) := by omega
  have k2 : (0 : Int) ≤ (i : Int) := by omega
  go_enter Try.func60, Try.ntmps60
  go_wp2_with fail
  go_quiet (fail)
  go_wp2_with fail
  go_ret
  exact ⟨rfl, (Only.refl [] W).drewN nq⟩

/-- How many of the ticks that are kept are not busy any more. -/
def FreePost (w : World) (head : Nat) (kept : List Int) (now life : Int) : Ending → World → Prop := fun e w' =>
  ∃ K : Nat, e = .returned (.int .i64 ((head : Int) + (K : Int))) ∧ K ≤ kept.length ∧ (∀ y ∈ kept.take K, ¬ now - y < life) ∧ (∀ y ∈ kept.drop K, now - y < life) ∧ Only [] w w'

set_option maxRecDepth 100000 in
set_option maxHeartbeats 1600000 in
theorem free_any (S V : Nat) (F : List Nat) (space next last life now : Int) (A : Option Addr) (n c head : Nat) (xs : List Int) (w : World) (h : SRep w S V F space next last life A n c head xs)
    (hasc : (xs.drop head).Pairwise (· ≤ ·)) (hb : ∀ y ∈ xs.drop head, 0 ≤ y ∧ y ≤ 1099511627776) (h3 : 0 ≤ now) (h4 : now ≤ 1099511627776) :
    Calls Try.prog 57 #[.pointer (some ⟨S, 0, none⟩), .int .i64 now] w (FreePost w head (xs.drop head) now life) := by
  have hle := h.r.le
  have hS := h.b.lt
  have hhd := h.hd
  have hbig := h.big
  have hlen := h.len
  have hml : (xs.drop head).length = n - head := by rw [List.length_drop, hlen]
  unfold maxLen at hle
  obtain ⟨hl1, hl2⟩ := hle
  have HREP := Lib.hid h
  have d4 := h.b.cell 4
  have d5 := h.b.cell 5
  simp only [List.getElem?_toArray, List.getElem?_cons_succ, List.getElem?_cons_zero] at d4 d5
  have HASC := Lib.hid hasc; clear hasc
  have HBD := Lib.hid hb; clear hb
  clear h
  have HML := Lib.hid hml; clear hml
  have HLEN := Lib.hid hlen; clear hlen
  have k1 : (0 : Int) ≤ (head : Int) := by omega
  have k2 : (head : Int) ≤ (n : Int) := by omega
  have k3 : (n : Int) ≤ (c : Int) := by omega
  have HO1 := Lib.hid (((Only.refl [] w).alloc (.cells #[.pointer (some ⟨S, 0, none⟩)] 77)).alloc (.cells #[.int .i64 now] 2))
  have HB1 := Lib.hid ((Blk.new w 77 #[.pointer (some ⟨S, 0, none⟩)]).alloc (.cells #[.int .i64 now] 2))
  have HB2 := Lib.hid (Blk.new (w.alloc (.cells #[.pointer (some ⟨S, 0, none⟩)] 77)) 2 #[.int .i64 now])
  have HSZ := Lib.hid (show ((w.alloc (.cells #[.pointer (some ⟨S, 0, none⟩)] 77)).alloc (.cells #[.int .i64 now] 2)).heap.size = w.heap.size + 1 + 1 by rw [World.size_alloc, World.size_alloc])
  rw [World.size_alloc] at HB2
  by_cases hch : c = head
  · obtain rfl : n = head := by omega
    obtain rfl : c = n := hch
    go_enter Try.func57, Try.ntmps57
    go_wp2_with fail
    generalize (w.alloc (.cells #[.pointer (some ⟨S, 0, none⟩)] 77)).alloc (.cells #[.int .i64 now] 2) = W1 at *
    clear d4 d5
    have hS1 : S < W1.heap.size := by have := HSZ.out; omega
    have hw1 : w.heap.size < W1.heap.size := by have := HSZ.out; omega
    have b0 := HB1.out.cell 0
    have e4 := HO1.out.cell (HREP.out.b.cell 4) (by simp)
    have e5 := HO1.out.cell (HREP.out.b.cell 5) (by simp)
    simp only [List.getElem?_toArray, List.getElem?_cons_succ, List.getElem?_cons_zero] at b0
    go_region_held3 (fun w' => w'.cell? ⟨w.heap.size, 0, none⟩ = some (.pointer (some ⟨S, 0, none⟩)) ∧ w'.cell? ⟨S, 4, none⟩ = some (.slice A c c) ∧ w'.cell? ⟨S, 5, none⟩ = some (.int .i64 c)) (first | go_keep | assumption) (first | fail)
    clear b0 e4 e5
    have HO2 := Lib.hid ((HO1.out.alloc (.cells #[.slice A 0 0] 93)).drew)
    have HB3 := Lib.hid ((HB1.out.alloc (.cells #[.slice A 0 0] 93)).drew)
    have HB4 := Lib.hid ((HB2.out.alloc (.cells #[.slice A 0 0] 93)).drew)
    have HB5 := Lib.hid ((Blk.new W1 93 #[.slice A 0 0]).drew)
    generalize (W1.alloc (.cells #[.slice A 0 0] 93)).drew = W2 at *
    have b0 := HB3.out.cell 0
    have b1 := HB4.out.cell 0
    have b2 := HB5.out.cell 0
    have e5 := HO2.out.cell (HREP.out.b.cell 5) (by simp)
    have e3 := HO2.out.cell (HREP.out.b.cell 3) (by simp)
    have hsch : Hid (∀ W, Only [] W2 W → Calls Try.prog 59 #[.int .i64 ((0 : Nat) : Int), .func (.func 60) #[] #[.pointer (some ⟨w.heap.size + 1, 0, none⟩), .pointer (some ⟨W1.heap.size, 0, none⟩), .pointer (some ⟨w.heap.size, 0, none⟩)]] W (SearchPost (0) (fun i => decide (now - xs.getD (c + i) 0 < life)) W)) := by
      intro W hW
      refine search_any _ _ (0) _ W (enters_of Try.func60 (by kernel_rfl) rfl) (by omega) ?_ ?_
      · intro W9 i hW9 hi; omega
      · intro a b hab hbn hp; omega
    simp only [List.getElem?_toArray, List.getElem?_cons_succ, List.getElem?_cons_zero] at b0 b1 b2 e5
    clear e3 b1
    go_wp2_with fail
    go_region_held3 (fun w' => w'.cell? ⟨w.heap.size, 0, none⟩ = some (.pointer (some ⟨S, 0, none⟩)) ∧ w'.cell? ⟨W1.heap.size, 0, none⟩ = some (.slice A 0 0) ∧ w'.cell? ⟨S, 5, none⟩ = some (.int .i64 c)) (first | go_keep | assumption) (first
      | (go_at_call 59; refine (hsch.out _ (Only.refl [] W2).drew).mono ?_; rintro e W3 ⟨K, rfl, hK1, hK2, hK3, ho3⟩; have hwr : IntKind.i64.wrap ((c : Int) + (K : Int)) = (c : Int) + (K : Int) := (by rw [IntKind.wrap_i64]; omega); have b9 := ho3.cell (p := ⟨w.heap.size, 0, none⟩) (show W2.drew.cell? _ = _ from b0) (by simp); have b8 := ho3.cell (p := ⟨W1.heap.size, 0, none⟩) (show W2.drew.cell? _ = _ from b2) (by simp); have b7 := ho3.cell (p := ⟨S, 5, none⟩) (show W2.drew.cell? _ = _ from e5) (by simp); have HK2 := Lib.hid hK2; have HK3 := Lib.hid hK3; have HO3 := Lib.hid ho3; clear hK2 hK3 ho3))
    go_wp2_with fail
    go_ret
    refine ⟨K, rfl, by have := HML.out; omega, ?_, ?_, HO2.out.trans ((Only.refl [] W2).drew.trans HO3.out (by simp)) (by simp)⟩
    · intro y hy
      have h9 := HML.out
      rw [List.eq_nil_of_length_eq_zero (by omega : (xs.drop c).length = 0)] at hy
      simp at hy
    · intro y hy
      have h9 := HML.out
      rw [List.eq_nil_of_length_eq_zero (by omega : (xs.drop c).length = 0)] at hy
      simp at hy
  · obtain ⟨q, cur, hF, rfl, hrow⟩ := HREP.out.r.blk (by omega)
    go_enter Try.func57, Try.ntmps57
    go_wp2_with fail
    generalize (w.alloc (.cells #[.pointer (some ⟨S, 0, none⟩)] 77)).alloc (.cells #[.int .i64 now] 2) = W1 at *
    clear d4 d5
    have hS1 : S < W1.heap.size := by have := HSZ.out; omega
    have hw1 : w.heap.size < W1.heap.size := by have := HSZ.out; omega
    have b0 := HB1.out.cell 0
    have e4 := HO1.out.cell (HREP.out.b.cell 4) (by simp)
    have e5 := HO1.out.cell (HREP.out.b.cell 5) (by simp)
    simp only [List.getElem?_toArray, List.getElem?_cons_succ, List.getElem?_cons_zero] at b0
    go_region_held3 (fun w' => w'.cell? ⟨w.heap.size, 0, none⟩ = some (.pointer (some ⟨S, 0, none⟩)) ∧ w'.cell? ⟨S, 4, none⟩ = some (.slice (some ⟨q, 0, none⟩) n c) ∧ w'.cell? ⟨S, 5, none⟩ = some (.int .i64 head)) (first | go_keep | assumption) (first | fail)
    clear b0 e4 e5
    have HO2 := Lib.hid ((HO1.out.alloc (.cells #[.slice (some ⟨q, head, none⟩) (n - head) (c - head)] 93)).drew)
    have HB3 := Lib.hid ((HB1.out.alloc (.cells #[.slice (some ⟨q, head, none⟩) (n - head) (c - head)] 93)).drew)
    have HB4 := Lib.hid ((HB2.out.alloc (.cells #[.slice (some ⟨q, head, none⟩) (n - head) (c - head)] 93)).drew)
    have HB5 := Lib.hid ((Blk.new W1 93 #[.slice (some ⟨q, head, none⟩) (n - head) (c - head)]).drew)
    generalize (W1.alloc (.cells #[.slice (some ⟨q, head, none⟩) (n - head) (c - head)] 93)).drew = W2 at *
    have b0 := HB3.out.cell 0
    have b1 := HB4.out.cell 0
    have b2 := HB5.out.cell 0
    have e5 := HO2.out.cell (HREP.out.b.cell 5) (by simp)
    have e3 := HO2.out.cell (HREP.out.b.cell 3) (by simp)
    have hsch : Hid (∀ W, Only [] W2 W → Calls Try.prog 59 #[.int .i64 ((n - head : Nat) : Int), .func (.func 60) #[] #[.pointer (some ⟨w.heap.size + 1, 0, none⟩), .pointer (some ⟨W1.heap.size, 0, none⟩), .pointer (some ⟨w.heap.size, 0, none⟩)]] W (SearchPost (n - head) (fun i => decide (now - xs.getD (head + i) 0 < life)) W)) := by
      intro W hW
      refine search_any _ _ (n - head) _ W (enters_of Try.func60 (by kernel_rfl) rfl) (by omega) ?_ ?_
      · intro W9 i hW9 hi
        have hO : Only [] W2 W9 := hW.trans hW9 (by simp)
        have hidx : head + i < xs.length := by rw [HLEN.out]; omega
        have hget : xs.getD (head + i) 0 = xs[head + i] := by simp [List.getD, hidx]
        have hmem : xs[head + i] ∈ xs.drop head := by
          rw [List.mem_drop_iff_getElem]
          exact ⟨i, by omega, by simp⟩
        have hb := HBD.out _ hmem
        obtain ⟨q', eq', _, hy⟩ := HREP.out.r.cellAt (j := head + i) (u := .int .i64 xs[head + i]) (by simp [hidx])
        injection eq' with eq'
        injection eq' with eq'
        subst eq'
        rw [hget]
        exact free1_any _ _ _ S q head (n - head) (c - head) i xs[head + i] now life W9 hi (by omega) (hO.cell b1 (by simp)) (hO.cell b2 (by simp)) (hO.cell b0 (by simp)) (hO.cell e3 (by simp)) (hO.cell (HO2.out.cell hy (by simp)) (by simp)) hb.1 hb.2 h3 h4
      · intro a b hab hbn hp
        have hpw := List.pairwise_iff_getElem.1 HASC.out
        rcases Nat.lt_or_ge a b with hlt | hge
        · have h9 := hpw a b (by rw [List.length_drop, HLEN.out]; omega) (by rw [List.length_drop, HLEN.out]; omega) hlt
          simp only [List.getElem_drop] at h9
          have ga : xs.getD (head + a) 0 = xs[head + a]'(by rw [HLEN.out]; omega) := by simp [List.getD, show head + a < xs.length by rw [HLEN.out]; omega]
          have gb : xs.getD (head + b) 0 = xs[head + b]'(by rw [HLEN.out]; omega) := by simp [List.getD, show head + b < xs.length by rw [HLEN.out]; omega]
          simp only [decide_eq_true_eq] at hp ⊢
          omega
        · have : a = b := by omega
          subst this
          exact hp
    simp only [List.getElem?_toArray, List.getElem?_cons_succ, List.getElem?_cons_zero] at b0 b1 b2 e5
    clear e3 b1
    go_wp2_with fail
    go_region_held3 (fun w' => w'.cell? ⟨w.heap.size, 0, none⟩ = some (.pointer (some ⟨S, 0, none⟩)) ∧ w'.cell? ⟨W1.heap.size, 0, none⟩ = some (.slice (some ⟨q, head, none⟩) (n - head) (c - head)) ∧ w'.cell? ⟨S, 5, none⟩ = some (.int .i64 head)) (first | go_keep | assumption) (first
      | (go_at_call 59; refine (hsch.out _ (Only.refl [] W2).drew).mono ?_; rintro e W3 ⟨K, rfl, hK1, hK2, hK3, ho3⟩; have hwr : IntKind.i64.wrap ((head : Int) + (K : Int)) = (head : Int) + (K : Int) := (by rw [IntKind.wrap_i64]; omega); have b9 := ho3.cell (p := ⟨w.heap.size, 0, none⟩) (show W2.drew.cell? _ = _ from b0) (by simp); have b8 := ho3.cell (p := ⟨W1.heap.size, 0, none⟩) (show W2.drew.cell? _ = _ from b2) (by simp); have b7 := ho3.cell (p := ⟨S, 5, none⟩) (show W2.drew.cell? _ = _ from e5) (by simp); have HK2 := Lib.hid hK2; have HK3 := Lib.hid hK3; have HO3 := Lib.hid ho3; clear hK2 hK3 ho3))
    go_wp2_with fail
    go_ret
    refine ⟨K, rfl, by rw [HML.out]; exact hK1, ?_, ?_, HO2.out.trans ((Only.refl [] W2).drew.trans HO3.out (by simp)) (by simp)⟩
    · intro y hy
      obtain ⟨i, hi, rfl⟩ := List.mem_take_iff_getElem.1 hy
      have hi2 : i < K := by omega
      have h9 := HK2.out i hi2
      have hidx : head + i < xs.length := by rw [HLEN.out]; omega
      have ga : xs.getD (head + i) 0 = xs[head + i] := by simp [List.getD, hidx]
      rw [List.getElem_drop]
      simp only [decide_eq_false_iff_not, ga] at h9
      exact h9
    · intro y hy
      obtain ⟨i, hi, rfl⟩ := List.mem_drop_iff_getElem.1 hy
      rw [HML.out] at hi
      have h9 := HK3.out (K + i) (by omega) (by omega)
      have hidx : head + (K + i) < xs.length := by rw [HLEN.out]; omega
      have ga : xs.getD (head + (K + i)) 0 = xs[head + (K + i)] := by simp [List.getD, hidx]
      rw [List.getElem_drop]
      simp only [decide_eq_true_eq, ga] at h9
      exact h9
end Go.Proofs.Ytjlnkfbhbiinoaa
