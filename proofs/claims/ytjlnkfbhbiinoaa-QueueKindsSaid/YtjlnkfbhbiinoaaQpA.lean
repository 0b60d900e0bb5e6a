/-
  The queue of [2]int: New, Push and Pop: what each call does to the queue's own memory.
-/
import Derived.Test.YtjlnkfbhbiinoaaQa
import Derived.Deep.RegionHeld3
import Derived.Deep.DrawnRows
import Derived.StillTailTactics
import Derived.Deep.RegionLaw
namespace Go.Proofs.Ytjlnkfbhbiinoaa
open Go.RowKit
set_option linter.unusedVariables false
set_option linter.unusedSimpArgs false
attribute [local go_sem ↓] Go.wp_at_zero Go.wp_at_succ

theorem Try.infoItemA : (Try.prog.info? 122).map (fun i => (i.zero, i.size, i.bytes)) = some (some (.agg #[.int .i64 0, .int .i64 0, .int .i64 0]), 3, 24) := by kernel_rfl

set_option maxRecDepth 100000 in
set_option maxHeartbeats 800000 in
theorem newArr_ok (count bytes : Int) (g : FuncId) (w : World) (h0 : 0 ≤ count) (h1 : count ≤ 64) (h2 : 0 ≤ bytes) :
    Calls Try.prog 27 #[.int .i64 count, .int .i64 bytes, .func (.func g) #[] #[]] w fun e w' =>
      e = .returned (.tuple #[.pointer (some ⟨w.heap.size, 0, none⟩), .int .i64 0]) ∧ w.alloc (.cells #[.func (.func g) #[] #[], .int .i64 count, .int .i64 bytes, .int .i64 0, .slice none 0 0] 115) = w' := by
  have hq := fun w => run_eql_func_nil (P := Try.prog) Try.underlying52 (.func g) #[] #[] w
  go_enter Try.func27, Try.ntmps27
  go_wp2
  go_ret2
  exact ⟨rfl, rfl⟩

set_option maxRecDepth 100000 in
set_option maxHeartbeats 800000 in
theorem newArr_no (count bytes : Int) (g : FuncId) (w : World) (h : count < 0 ∨ 64 < count ∨ bytes < 0) :
    Calls Try.prog 27 #[.int .i64 count, .int .i64 bytes, .func (.func g) #[] #[]] w fun e w' =>
      e = .returned (.tuple #[.pointer none, .int .i64 1]) ∧ w = w' := by
  have hq := fun w => run_eql_func_nil (P := Try.prog) Try.underlying52 (.func g) #[] #[] w
  by_cases ha : count < 0
  · clear h
    go_enter Try.func27, Try.ntmps27
    go_wp2
    go_ret2
    exact ⟨rfl, rfl⟩
  · by_cases hb : 64 < count
    · clear h
      go_enter Try.func27, Try.ntmps27
      go_wp2
      go_ret2
      exact ⟨rfl, rfl⟩
    · have hc : bytes < 0 := by omega
      clear h
      go_enter Try.func27, Try.ntmps27
      go_wp2
      go_ret2
      exact ⟨rfl, rfl⟩

set_option maxRecDepth 100000 in
set_option maxHeartbeats 1600000 in
theorem pushArr_yes0 (Q : Nat) (F : List Nat) (g : FuncId) (count bytes sum s t : Int) (x y : Int) (n c : Nat) (A : Option Addr) (cells : List Value) (w : World)
    (eg : ∀ args w, (callFunc g args).run Try.prog w = .ok (.enter g args) w)
    (hsz : ∀ w, Calls Try.prog g #[.agg #[.int .i64 x, .int .i64 y]] w fun e w' => e = .returned (.int .i64 s) ∧ Only [] w w')
    (hb : Blk w Q 115 #[.func (.func g) #[] #[], .int .i64 count, .int .i64 (bytes - sum), .int .i64 sum, .slice A n c]) (hr : Row w 122 3 F A n c cells)
    (h0 : 0 ≤ s) (h1 : (n : Int) < count) (h2 : count ≤ 64) (h3 : s ≤ bytes - sum) (h4 : 0 ≤ sum) (h5 : sum ≤ bytes) (h6 : bytes ≤ 9223372036854775807) :
    Calls Try.prog 32 #[.pointer (some ⟨Q, 0, none⟩), .agg #[.int .i64 x, .int .i64 y]] w fun e w' => e = .returned (.bool true) ∧ ∃ F', QRep w' 115 122 3 Q F' g count bytes (n + 1) (sum + s) (cells ++ [.int .i64 x, .int .i64 y, .int .i64 s]) ∧ Only (Q :: F) w w' ∧ ∀ k ∈ F', k ∈ F ∨ w.heap.size ≤ k := by
  obtain ⟨i0, hi, hz0, hz1, hz2⟩ := info_parts Try.infoItemA
  have HI := Lib.hid hi; clear hi
  have HZ0 := Lib.hid hz0; clear hz0
  have HZ1 := Lib.hid hz1; clear hz1
  have HZ2 := Lib.hid hz2; clear hz2
  have hqf := hr.ne_blk hb (by decide)
  have HQF := Lib.hid hqf; clear hqf
  have hrl := hr.lt
  have HRL := Lib.hid hrl; clear hrl
  have HR := Lib.hid (hr.alloc (.cells #[.int .i64 x, .int .i64 y] 51)); clear hr
  have hd : ((n : Int) == count) = false := by rw [beq_eq_false_iff_ne]; omega
  have hlQ := hb.lt
  have hQw : Q ≠ w.heap.size := by omega
  have HB := Lib.hid (hb.alloc (.cells #[.int .i64 x, .int .i64 y] 51)); clear hb
  have HX := Lib.hid (Blk.new w 51 #[.int .i64 x, .int .i64 y])
  have HO := Lib.hid ((Only.refl [] w).alloc (.cells #[.int .i64 x, .int .i64 y] 51))
  have HSZ := Lib.hid (World.size_alloc w (.cells #[.int .i64 x, .int .i64 y] 51))
  have HS := Lib.hid hsz; clear hsz
  go_enter Try.func32, Try.ntmps32
  go_wp2_with fail
  generalize w.alloc (.cells #[.int .i64 x, .int .i64 y] 51) = W at *
  have d0 := HB.out.cell 0
  have x0 := HX.out.cell 0
  have x1 := HX.out.cell 1
  simp only [List.getElem?_toArray, List.getElem?_cons_succ, List.getElem?_cons_zero] at d0 x0 x1
  go_region_held3 (fun w' => w'.cell? ⟨Q, 0, none⟩ = some (.func (.func g) #[] #[]) ∧ w'.cell? ⟨w.heap.size, 0, none⟩ = some (.int .i64 x) ∧ w'.cell? ⟨w.heap.size, 1, none⟩ = some (.int .i64 y)) (first | go_keep | assumption) (first | (go_at_fn g; refine (HS.out _).mono ?_; rintro e w1 ⟨rfl, ho⟩; have hs9 := ho.cell (p := ⟨Q, 0, none⟩) (show W.drew.cell? _ = _ from d0) (by simp); have y0 := ho.cell (p := ⟨w.heap.size, 0, none⟩) (show W.drew.cell? _ = _ from x0) (by simp); have y1 := ho.cell (p := ⟨w.heap.size, 1, none⟩) (show W.drew.cell? _ = _ from x1) (by simp); have HB1 := Lib.hid (HB.out.drew.only ho (by simp)); have HX1 := Lib.hid (HX.out.drew.only ho (by simp)); have HO1 := Lib.hid (HO.out.drew.trans ho (by simp)); have HR1 := Lib.hid (HR.out.drew.only ho (by simp)); clear ho))
  clear d0 hs9 x0 y0 x1 y1
  have c1 : w1.cell? ⟨Q, 1, none⟩ = some (.int .i64 count) := HB1.out.cell 1
  have c2 : w1.cell? ⟨Q, 2, none⟩ = some (.int .i64 (bytes - sum)) := HB1.out.cell 2
  have c3 : w1.cell? ⟨Q, 3, none⟩ = some (.int .i64 sum) := HB1.out.cell 3
  have c4 : w1.cell? ⟨Q, 4, none⟩ = some (.slice A n c) := HB1.out.cell 4
  go_wp2_with fail
  go_quiet (fail)
  go_wp2_with fail
  have HB2 := Lib.hid (HB1.out.drewN nq)
  have HX2 := Lib.hid (HX1.out.drewN nq)
  have HO2 := Lib.hid (HO1.out.drewN nq)
  have HR2 := Lib.hid (HR1.out.drewN nq)
  generalize w1.drewN nq = W2 at *
  clear c1 c2 c3 c4
  have hq2 : Q < W2.heap.size := HB2.out.lt
  have hx2 : w.heap.size < W2.heap.size := HX2.out.lt
  have d4 := HB2.out.cell 4
  have f4 := HB2.out.frozen 4
  have x0 := HX2.out.cell 0
  have x1 := HX2.out.cell 1
  simp only [List.getElem?_toArray, List.getElem?_cons_succ, List.getElem?_cons_zero] at d4 x0 x1
  go_region_law (first | (refine step_append_row _ rfl (.tmp 35) (.tmp 39) 113 rfl 122 i0 _ 3 24 Try.underlying113 HI.out HZ0.out HZ1.out HZ2.out rfl (by decide) F A n c cells rfl (HR2.out.drew.alloc _) ⟨W2.heap.size, 0, none⟩ 1 1 [.int .i64 x, .int .i64 y, .int .i64 s] rfl rfl (news_of_new _ _ _) (by simp [Value.oneCell']) (by decide) (by unfold maxLen; omega) (by omega) ?_; intro g1 cap w3 hR1 hO1 hg1; have HB3 := Lib.hid ((HB2.out.drew.alloc _).only hO1 HQF.out); have d4 := HB3.out.cell 4; have f4 := HB3.out.frozen 4; simp only [List.getElem?_toArray, List.getElem?_cons_succ, List.getElem?_cons_zero] at d4; have HR3 := Lib.hid hR1; have HO3 := Lib.hid hO1; have HG3 := Lib.hid hg1; clear hR1 hO1 hg1))
  all_goals
    have d2 := HB3.out.cell 2
    have d3 := HB3.out.cell 3
    have f2 := HB3.out.frozen 2
    have f3 := HB3.out.frozen 3
    simp only [List.getElem?_toArray, List.getElem?_cons_succ, List.getElem?_cons_zero] at d2 d3
    go_wp2_with fail
    go_ret
    have hq : Q ∉ [g1] := HR3.out.ne_blk HB3.out (by decide)
    refine ⟨rfl, [g1], ⟨_, _, ?_, ((HR3.out.setFar (p := ⟨Q, 4, none⟩) hq _).setFar (p := ⟨Q, 2, none⟩) hq _).setFar (p := ⟨Q, 3, none⟩) hq _⟩, ?_, ?_⟩
    · have := ((HB3.out.set_ 4 (.slice (some ⟨g1, 0, none⟩) (n + 1) cap)).set_ 2 (.int .i64 (bytes - sum - s))).set_ 3 (.int .i64 (sum + s))
      rw [show bytes - (sum + s) = bytes - sum - s by omega]
      exact this
    · have h := ((HO2.out.mono (G := Q :: F) (by simp)).drew).alloc (.cells #[.int .i64 x, .int .i64 y, .int .i64 s] 122)
      exact (((h.trans HO3.out (fun k hk => .inl (List.mem_cons_of_mem _ hk))).setCell (.inl (by simp)) _).setCell (.inl (by simp)) _).setCell (.inl (by simp)) _
    · intro k hk
      have : k = g1 := by simpa using hk
      subst this
      rcases HG3.out with h | h
      · exact .inl h
      · right
        have := HO2.out.size
        simp at h
        omega

set_option maxRecDepth 100000 in
set_option maxHeartbeats 1600000 in
theorem pushArr_neg0 (Q : Nat) (F : List Nat) (g : FuncId) (count bytes sum s t : Int) (x y : Int) (n c : Nat) (A : Option Addr) (cells : List Value) (w : World)
    (eg : ∀ args w, (callFunc g args).run Try.prog w = .ok (.enter g args) w)
    (hsz : ∀ w, Calls Try.prog g #[.agg #[.int .i64 x, .int .i64 y]] w fun e w' => e = .returned (.int .i64 s) ∧ Only [] w w')
    (hb : Blk w Q 115 #[.func (.func g) #[] #[], .int .i64 count, .int .i64 (bytes - sum), .int .i64 sum, .slice A n c]) (hr : Row w 122 3 F A n c cells)
    (h0 : s < 0) (h1 : (n : Int) < count) (h2 : count ≤ 64) (h4 : 0 ≤ sum) (h5 : sum ≤ bytes) (h6 : bytes ≤ 9223372036854775807) :
    Calls Try.prog 32 #[.pointer (some ⟨Q, 0, none⟩), .agg #[.int .i64 x, .int .i64 y]] w fun e w' => e = .returned (.bool true) ∧ ∃ F', QRep w' 115 122 3 Q F' g count bytes (n + 1) (sum + 0) (cells ++ [.int .i64 x, .int .i64 y, .int .i64 0]) ∧ Only (Q :: F) w w' ∧ ∀ k ∈ F', k ∈ F ∨ w.heap.size ≤ k := by
  obtain ⟨i0, hi, hz0, hz1, hz2⟩ := info_parts Try.infoItemA
  have HI := Lib.hid hi; clear hi
  have HZ0 := Lib.hid hz0; clear hz0
  have HZ1 := Lib.hid hz1; clear hz1
  have HZ2 := Lib.hid hz2; clear hz2
  have hqf := hr.ne_blk hb (by decide)
  have HQF := Lib.hid hqf; clear hqf
  have hrl := hr.lt
  have HRL := Lib.hid hrl; clear hrl
  have HR := Lib.hid (hr.alloc (.cells #[.int .i64 x, .int .i64 y] 51)); clear hr
  have hd : ((n : Int) == count) = false := by rw [beq_eq_false_iff_ne]; omega
  have hlQ := hb.lt
  have hQw : Q ≠ w.heap.size := by omega
  have HB := Lib.hid (hb.alloc (.cells #[.int .i64 x, .int .i64 y] 51)); clear hb
  have HX := Lib.hid (Blk.new w 51 #[.int .i64 x, .int .i64 y])
  have HO := Lib.hid ((Only.refl [] w).alloc (.cells #[.int .i64 x, .int .i64 y] 51))
  have HSZ := Lib.hid (World.size_alloc w (.cells #[.int .i64 x, .int .i64 y] 51))
  have HS := Lib.hid hsz; clear hsz
  go_enter Try.func32, Try.ntmps32
  go_wp2_with fail
  generalize w.alloc (.cells #[.int .i64 x, .int .i64 y] 51) = W at *
  have d0 := HB.out.cell 0
  have x0 := HX.out.cell 0
  have x1 := HX.out.cell 1
  simp only [List.getElem?_toArray, List.getElem?_cons_succ, List.getElem?_cons_zero] at d0 x0 x1
  go_region_held3 (fun w' => w'.cell? ⟨Q, 0, none⟩ = some (.func (.func g) #[] #[]) ∧ w'.cell? ⟨w.heap.size, 0, none⟩ = some (.int .i64 x) ∧ w'.cell? ⟨w.heap.size, 1, none⟩ = some (.int .i64 y)) (first | go_keep | assumption) (first | (go_at_fn g; refine (HS.out _).mono ?_; rintro e w1 ⟨rfl, ho⟩; have hs9 := ho.cell (p := ⟨Q, 0, none⟩) (show W.drew.cell? _ = _ from d0) (by simp); have y0 := ho.cell (p := ⟨w.heap.size, 0, none⟩) (show W.drew.cell? _ = _ from x0) (by simp); have y1 := ho.cell (p := ⟨w.heap.size, 1, none⟩) (show W.drew.cell? _ = _ from x1) (by simp); have HB1 := Lib.hid (HB.out.drew.only ho (by simp)); have HX1 := Lib.hid (HX.out.drew.only ho (by simp)); have HO1 := Lib.hid (HO.out.drew.trans ho (by simp)); have HR1 := Lib.hid (HR.out.drew.only ho (by simp)); clear ho))
  clear d0 hs9 x0 y0 x1 y1
  have c1 : w1.cell? ⟨Q, 1, none⟩ = some (.int .i64 count) := HB1.out.cell 1
  have c2 : w1.cell? ⟨Q, 2, none⟩ = some (.int .i64 (bytes - sum)) := HB1.out.cell 2
  have c3 : w1.cell? ⟨Q, 3, none⟩ = some (.int .i64 sum) := HB1.out.cell 3
  have c4 : w1.cell? ⟨Q, 4, none⟩ = some (.slice A n c) := HB1.out.cell 4
  go_wp2_with fail
  go_quiet (fail)
  go_wp2_with fail
  have HB2 := Lib.hid (HB1.out.drewN nq)
  have HX2 := Lib.hid (HX1.out.drewN nq)
  have HO2 := Lib.hid (HO1.out.drewN nq)
  have HR2 := Lib.hid (HR1.out.drewN nq)
  generalize w1.drewN nq = W2 at *
  clear c1 c2 c3 c4
  have hq2 : Q < W2.heap.size := HB2.out.lt
  have hx2 : w.heap.size < W2.heap.size := HX2.out.lt
  have d4 := HB2.out.cell 4
  have f4 := HB2.out.frozen 4
  have x0 := HX2.out.cell 0
  have x1 := HX2.out.cell 1
  simp only [List.getElem?_toArray, List.getElem?_cons_succ, List.getElem?_cons_zero] at d4 x0 x1
  go_region_law (first | (refine step_append_row _ rfl (.tmp 35) (.tmp 39) 113 rfl 122 i0 _ 3 24 Try.underlying113 HI.out HZ0.out HZ1.out HZ2.out rfl (by decide) F A n c cells rfl (HR2.out.drew.alloc _) ⟨W2.heap.size, 0, none⟩ 1 1 [.int .i64 x, .int .i64 y, .int .i64 0] rfl rfl (news_of_new _ _ _) (by simp [Value.oneCell']) (by decide) (by unfold maxLen; omega) (by omega) ?_; intro g1 cap w3 hR1 hO1 hg1; have HB3 := Lib.hid ((HB2.out.drew.alloc _).only hO1 HQF.out); have d4 := HB3.out.cell 4; have f4 := HB3.out.frozen 4; simp only [List.getElem?_toArray, List.getElem?_cons_succ, List.getElem?_cons_zero] at d4; have HR3 := Lib.hid hR1; have HO3 := Lib.hid hO1; have HG3 := Lib.hid hg1; clear hR1 hO1 hg1))
  all_goals
    have d2 := HB3.out.cell 2
    have d3 := HB3.out.cell 3
    have f2 := HB3.out.frozen 2
    have f3 := HB3.out.frozen 3
    simp only [List.getElem?_toArray, List.getElem?_cons_succ, List.getElem?_cons_zero] at d2 d3
    go_wp2_with fail
    go_ret
    have hq : Q ∉ [g1] := HR3.out.ne_blk HB3.out (by decide)
    refine ⟨rfl, [g1], ⟨_, _, ?_, ((HR3.out.setFar (p := ⟨Q, 4, none⟩) hq _).setFar (p := ⟨Q, 2, none⟩) hq _).setFar (p := ⟨Q, 3, none⟩) hq _⟩, ?_, ?_⟩
    · have := ((HB3.out.set_ 4 (.slice (some ⟨g1, 0, none⟩) (n + 1) cap)).set_ 2 (.int .i64 (bytes - sum))).set_ 3 (.int .i64 (sum))
      rw [show sum + 0 = sum by omega]
      exact this
    · have h := ((HO2.out.mono (G := Q :: F) (by simp)).drew).alloc (.cells #[.int .i64 x, .int .i64 y, .int .i64 0] 122)
      exact (((h.trans HO3.out (fun k hk => .inl (List.mem_cons_of_mem _ hk))).setCell (.inl (by simp)) _).setCell (.inl (by simp)) _).setCell (.inl (by simp)) _
    · intro k hk
      have : k = g1 := by simpa using hk
      subst this
      rcases HG3.out with h | h
      · exact .inl h
      · right
        have := HO2.out.size
        simp at h
        omega

set_option maxRecDepth 100000 in
set_option maxHeartbeats 1600000 in
theorem pushArr_full0 (Q : Nat) (F : List Nat) (g : FuncId) (count bytes sum s t : Int) (x y : Int) (n c : Nat) (A : Option Addr) (cells : List Value) (w : World)
    (eg : ∀ args w, (callFunc g args).run Try.prog w = .ok (.enter g args) w)
    (hsz : ∀ w, Calls Try.prog g #[.agg #[.int .i64 x, .int .i64 y]] w fun e w' => e = .returned (.int .i64 s) ∧ Only [] w w')
    (hb : Blk w Q 115 #[.func (.func g) #[] #[], .int .i64 count, .int .i64 (bytes - sum), .int .i64 sum, .slice A n c])
    (h1 : (n : Int) = count) :
    Calls Try.prog 32 #[.pointer (some ⟨Q, 0, none⟩), .agg #[.int .i64 x, .int .i64 y]] w fun e w' => e = .returned (.bool false) ∧ Only [] w w' := by
  subst h1
  have hd : ((n : Int) == (n : Int)) = true := by simp
  have hlQ := hb.lt
  have hQw : Q ≠ w.heap.size := by omega
  have HB := Lib.hid (hb.alloc (.cells #[.int .i64 x, .int .i64 y] 51)); clear hb
  have HX := Lib.hid (Blk.new w 51 #[.int .i64 x, .int .i64 y])
  have HO := Lib.hid ((Only.refl [] w).alloc (.cells #[.int .i64 x, .int .i64 y] 51))
  have HSZ := Lib.hid (World.size_alloc w (.cells #[.int .i64 x, .int .i64 y] 51))
  have HS := Lib.hid hsz; clear hsz
  by_cases h0 : 0 ≤ s
  all_goals
    go_enter Try.func32, Try.ntmps32
    go_wp2_with fail
    generalize w.alloc (.cells #[.int .i64 x, .int .i64 y] 51) = W at *
    have d0 := HB.out.cell 0
    have x0 := HX.out.cell 0
    have x1 := HX.out.cell 1
    simp only [List.getElem?_toArray, List.getElem?_cons_succ, List.getElem?_cons_zero] at d0 x0 x1
    go_region_held3 (fun w' => w'.cell? ⟨Q, 0, none⟩ = some (.func (.func g) #[] #[]) ∧ w'.cell? ⟨w.heap.size, 0, none⟩ = some (.int .i64 x) ∧ w'.cell? ⟨w.heap.size, 1, none⟩ = some (.int .i64 y)) (first | go_keep | assumption) (first | (go_at_fn g; refine (HS.out _).mono ?_; rintro e w1 ⟨rfl, ho⟩; have hs9 := ho.cell (p := ⟨Q, 0, none⟩) (show W.drew.cell? _ = _ from d0) (by simp); have y0 := ho.cell (p := ⟨w.heap.size, 0, none⟩) (show W.drew.cell? _ = _ from x0) (by simp); have y1 := ho.cell (p := ⟨w.heap.size, 1, none⟩) (show W.drew.cell? _ = _ from x1) (by simp); have HB1 := Lib.hid (HB.out.drew.only ho (by simp)); have HX1 := Lib.hid (HX.out.drew.only ho (by simp)); have HO1 := Lib.hid (HO.out.drew.trans ho (by simp)); clear ho))
    clear d0 hs9 x0 y0 x1 y1
    have c1 : w1.cell? ⟨Q, 1, none⟩ = some (.int .i64 n) := HB1.out.cell 1
    have c2 : w1.cell? ⟨Q, 2, none⟩ = some (.int .i64 (bytes - sum)) := HB1.out.cell 2
    have c3 : w1.cell? ⟨Q, 3, none⟩ = some (.int .i64 sum) := HB1.out.cell 3
    have c4 : w1.cell? ⟨Q, 4, none⟩ = some (.slice A n c) := HB1.out.cell 4
    go_wp2_with fail
    go_quiet (fail)
    go_wp2_with fail
    go_ret
    exact ⟨rfl, HO1.out.drewN nq⟩

set_option maxRecDepth 100000 in
set_option maxHeartbeats 1600000 in
theorem pushArr_big0 (Q : Nat) (F : List Nat) (g : FuncId) (count bytes sum s t : Int) (x y : Int) (n c : Nat) (A : Option Addr) (cells : List Value) (w : World)
    (eg : ∀ args w, (callFunc g args).run Try.prog w = .ok (.enter g args) w)
    (hsz : ∀ w, Calls Try.prog g #[.agg #[.int .i64 x, .int .i64 y]] w fun e w' => e = .returned (.int .i64 s) ∧ Only [] w w')
    (hb : Blk w Q 115 #[.func (.func g) #[] #[], .int .i64 count, .int .i64 (bytes - sum), .int .i64 sum, .slice A n c])
    (h0 : 0 ≤ s) (h1 : (n : Int) < count) (h3 : bytes - sum < s) :
    Calls Try.prog 32 #[.pointer (some ⟨Q, 0, none⟩), .agg #[.int .i64 x, .int .i64 y]] w fun e w' => e = .returned (.bool false) ∧ Only [] w w' := by
  have hd : ((n : Int) == count) = false := by rw [beq_eq_false_iff_ne]; omega
  have hlQ := hb.lt
  have hQw : Q ≠ w.heap.size := by omega
  have HB := Lib.hid (hb.alloc (.cells #[.int .i64 x, .int .i64 y] 51)); clear hb
  have HX := Lib.hid (Blk.new w 51 #[.int .i64 x, .int .i64 y])
  have HO := Lib.hid ((Only.refl [] w).alloc (.cells #[.int .i64 x, .int .i64 y] 51))
  have HSZ := Lib.hid (World.size_alloc w (.cells #[.int .i64 x, .int .i64 y] 51))
  have HS := Lib.hid hsz; clear hsz
  go_enter Try.func32, Try.ntmps32
  go_wp2_with fail
  generalize w.alloc (.cells #[.int .i64 x, .int .i64 y] 51) = W at *
  have d0 := HB.out.cell 0
  have x0 := HX.out.cell 0
  have x1 := HX.out.cell 1
  simp only [List.getElem?_toArray, List.getElem?_cons_succ, List.getElem?_cons_zero] at d0 x0 x1
  go_region_held3 (fun w' => w'.cell? ⟨Q, 0, none⟩ = some (.func (.func g) #[] #[]) ∧ w'.cell? ⟨w.heap.size, 0, none⟩ = some (.int .i64 x) ∧ w'.cell? ⟨w.heap.size, 1, none⟩ = some (.int .i64 y)) (first | go_keep | assumption) (first | (go_at_fn g; refine (HS.out _).mono ?_; rintro e w1 ⟨rfl, ho⟩; have hs9 := ho.cell (p := ⟨Q, 0, none⟩) (show W.drew.cell? _ = _ from d0) (by simp); have y0 := ho.cell (p := ⟨w.heap.size, 0, none⟩) (show W.drew.cell? _ = _ from x0) (by simp); have y1 := ho.cell (p := ⟨w.heap.size, 1, none⟩) (show W.drew.cell? _ = _ from x1) (by simp); have HB1 := Lib.hid (HB.out.drew.only ho (by simp)); have HX1 := Lib.hid (HX.out.drew.only ho (by simp)); have HO1 := Lib.hid (HO.out.drew.trans ho (by simp)); clear ho))
  clear d0 hs9 x0 y0 x1 y1
  have c1 : w1.cell? ⟨Q, 1, none⟩ = some (.int .i64 count) := HB1.out.cell 1
  have c2 : w1.cell? ⟨Q, 2, none⟩ = some (.int .i64 (bytes - sum)) := HB1.out.cell 2
  have c3 : w1.cell? ⟨Q, 3, none⟩ = some (.int .i64 sum) := HB1.out.cell 3
  have c4 : w1.cell? ⟨Q, 4, none⟩ = some (.slice A n c) := HB1.out.cell 4
  go_wp2_with fail
  go_quiet (fail)
  go_wp2_with fail
  go_ret
  exact ⟨rfl, HO1.out.drewN nq⟩

set_option maxRecDepth 100000 in
set_option maxHeartbeats 800000 in
theorem popArr_none (Q : Nat) (g : FuncId) (count bytes sum : Int) (c : Nat) (A : Option Addr) (w : World)
    (hb : Blk w Q 115 #[.func (.func g) #[] #[], .int .i64 count, .int .i64 (bytes - sum), .int .i64 sum, .slice A 0 c]) :
    Calls Try.prog 35 #[.pointer (some ⟨Q, 0, none⟩)] w fun e w' => e = .returned (.tuple #[.agg #[.int .i64 0, .int .i64 0], .bool false]) ∧ Only [] w w' := by
  have hlt := hb.lt
  have hne : Q ≠ w.heap.size := by omega
  have c4 : w.cell? ⟨Q, 4, none⟩ = some (.slice A 0 c) := hb.cell 4
  have HB := Lib.hid hb; clear hb
  go_enter Try.func35, Try.ntmps35
  go_wp2_with fail
  refine bodyPost_ret (v := .tuple #[.agg #[.int .i64 0, .int .i64 0], .bool false]) (by simp [results, Try.results35, go_sem]) rfl ⟨rfl, ?_⟩
  exact ((Only.refl [] w).alloc _).alloc _

set_option maxRecDepth 100000 in
set_option maxHeartbeats 1600000 in
theorem popArr_one (Q : Nat) (F : List Nat) (g : FuncId) (count bytes sum s : Int) (x y : Int) (c : Nat) (A : Option Addr) (cells : List Value) (w : World)
    (hb : Blk w Q 115 #[.func (.func g) #[] #[], .int .i64 count, .int .i64 (bytes - sum), .int .i64 sum, .slice A 1 c]) (hr : Row w 122 3 F A 1 c (.int .i64 x :: .int .i64 y :: .int .i64 s :: cells))
    (h0 : 0 ≤ s) (h3 : s ≤ sum) (h5 : sum ≤ bytes) (h6 : bytes ≤ 9223372036854775807) :
    Calls Try.prog 35 #[.pointer (some ⟨Q, 0, none⟩)] w fun e w' => e = .returned (.tuple #[.agg #[.int .i64 x, .int .i64 y], .bool true]) ∧ ∃ F', QRep w' 115 122 3 Q F' g count bytes 0 (sum - s) cells ∧ Only (Q :: F) w w' ∧ ∀ k ∈ F', k ∈ F ∨ w.heap.size ≤ k := by
  obtain ⟨i0, hi, hz0, hz1, hz2⟩ := info_parts Try.infoItemA
  obtain ⟨hcl, hcm⟩ := hr.le
  unfold maxLen at hcm
  obtain ⟨q, rfl, rfl, r0⟩ := hr.cellAt (j := 0) (u := .int .i64 x) rfl
  obtain ⟨q1, e1, e2, r1⟩ := hr.cellAt (j := 1) (u := .int .i64 y) rfl
  injection e1 with e1
  injection e1 with e1
  subst e1
  clear e2
  obtain ⟨q2, e1, e2, r2⟩ := hr.cellAt (j := 2) (u := .int .i64 s) rfl
  injection e1 with e1
  injection e1 with e1
  subst e1
  clear e2
  have c2 : w.cell? ⟨Q, 2, none⟩ = some (.int .i64 (bytes - sum)) := hb.cell 2
  have c3 : w.cell? ⟨Q, 3, none⟩ = some (.int .i64 sum) := hb.cell 3
  have c4 : w.cell? ⟨Q, 4, none⟩ = some (.slice (some ⟨q, 0, none⟩) 1 c) := hb.cell 4
  have hlq : q < w.heap.size := hr.lt q (by simp)
  have hqQ : Q ≠ q := fun h => hr.ne_blk hb (by decide) (by simp [h])
  have hlQ := hb.lt
  have HB := Lib.hid hb; clear hb
  have HR := Lib.hid hr; clear hr
  have HI := Lib.hid hi; clear hi
  have HZ0 := Lib.hid hz0; clear hz0
  have HZ1 := Lib.hid hz1; clear hz1
  have HZ2 := Lib.hid hz2; clear hz2
  have HB0 := Lib.hid ((HB.out.alloc (.cells #[.int .i64 0, .int .i64 0] 51)).alloc (.cells #[.int .i64 x, .int .i64 y, .int .i64 s] 122))
  have HX := Lib.hid (Blk.new (w.alloc (.cells #[.int .i64 0, .int .i64 0] 51)) 122 #[.int .i64 x, .int .i64 y, .int .i64 s])
  have HT := Lib.hid ((Blk.new w 51 #[.int .i64 0, .int .i64 0]).alloc (.cells #[.int .i64 x, .int .i64 y, .int .i64 s] 122))
  have HR0 := Lib.hid ((HR.out.alloc (.cells #[.int .i64 0, .int .i64 0] 51)).alloc (.cells #[.int .i64 x, .int .i64 y, .int .i64 s] 122))
  have HO0 := Lib.hid (((Only.refl (Q :: [q]) w).alloc (.cells #[.int .i64 0, .int .i64 0] 51)).alloc (.cells #[.int .i64 x, .int .i64 y, .int .i64 s] 122))
  have HS0 := Lib.hid (show ((w.alloc (.cells #[.int .i64 0, .int .i64 0] 51)).alloc (.cells #[.int .i64 x, .int .i64 y, .int .i64 s] 122)).heap.size = w.heap.size + 1 + 1 by rw [World.size_alloc, World.size_alloc])
  rw [World.size_alloc] at HX
  have HBa := Lib.hid (HB0.out.drew)
  have HXa := Lib.hid (HX.out.drew)
  have HRa := Lib.hid (HR0.out.drew)
  have HOa := Lib.hid (HO0.out.drew)
  have HTa := Lib.hid (HT.out.drew)
  have hqf : Q ∉ [q] := fun h => hqQ (by simpa using h)
  go_enter Try.func35, Try.ntmps35
  go_wp2_with fail
  generalize ((w.alloc (.cells #[.int .i64 0, .int .i64 0] 51)).alloc (.cells #[.int .i64 x, .int .i64 y, .int .i64 s] 122)) = W at *
  have d4 := HB0.out.cell 4
  have f4 := HB0.out.frozen 4
  simp only [List.getElem?_toArray, List.getElem?_cons_succ, List.getElem?_cons_zero] at d4
  rcases Nat.lt_or_ge 1 c with hc9 | hc9
  · have k2 : ¬ c = 1 := by omega
    have k4 : (1 : Int) ≤ (c : Int) := by omega
    go_region_law (fail)
    all_goals
      go_wp2_with fail
      have HB2 := Lib.hid (HBa.out.set_ 4 (.slice (some ⟨q, 0, none⟩) 0 0))
      have HX2 := Lib.hid (HXa.out.far (p := ⟨Q, 4, none⟩) (by simp; omega) (.slice (some ⟨q, 0, none⟩) 0 0))
      have HO2 := Lib.hid (HOa.out.setCell (p := ⟨Q, 4, none⟩) (.inl (by simp)) (.slice (some ⟨q, 0, none⟩) 0 0))
      have HT2 := Lib.hid (HTa.out.far (p := ⟨Q, 4, none⟩) (by simp; omega) (.slice (some ⟨q, 0, none⟩) 0 0))
      clear d4 f4
      rw [World.setCell_drew] at HB2 HX2 HO2 HT2
      generalize (W.setCell ⟨Q, 4, none⟩ (.slice (some ⟨q, 0, none⟩) 0 0)).drew = W2 at *
      have e1 := HX2.out.cell 2
      have d2 := HB2.out.cell 2
      simp only [List.getElem?_toArray, List.getElem?_cons_succ, List.getElem?_cons_zero, List.set_cons_succ, List.set_cons_zero, List.setIfInBounds_toArray] at e1 d2
      go_still_tail 7, (by kernel_rfl)
      change wpList _ _ _ _ _ W2.drew
      clear d2 e1
      have HBb := Lib.hid (HB2.out.drew)
      have HXb := Lib.hid (HX2.out.drew)
      have HOb := Lib.hid (HO2.out.drew)
      have HTb := Lib.hid (HT2.out.drew)
      generalize W2.drew = Wb2 at *
      have d2 := HBb.out.cell 2
      have f2 := HBb.out.frozen 2
      have e0 := HXb.out.cell 0
      simp only [List.getElem?_toArray, List.getElem?_cons_succ, List.getElem?_cons_zero, List.set_cons_succ, List.set_cons_zero, List.setIfInBounds_toArray] at d2 e0
      go_wp2_with fail
      clear d2 f2 e0
      have HB3 := Lib.hid (HBb.out.set_ 2 (.int .i64 (bytes - sum + s)))
      have HX3 := Lib.hid (HXb.out.far (p := ⟨Q, 2, none⟩) (by simp; omega) (.int .i64 (bytes - sum + s)))
      have HO3 := Lib.hid (HOb.out.setCell (p := ⟨Q, 2, none⟩) (.inl (by simp)) (.int .i64 (bytes - sum + s)))
      have HT3 := Lib.hid (HTb.out.far (p := ⟨Q, 2, none⟩) (by simp; omega) (.int .i64 (bytes - sum + s)))
      generalize Wb2.setCell ⟨Q, 2, none⟩ (.int .i64 (bytes - sum + s)) = W3 at *
      clear HBb HXb HOb HTb
      have e1 := HX3.out.cell 2
      have d3 := HB3.out.cell 3
      simp only [List.getElem?_toArray, List.getElem?_cons_succ, List.getElem?_cons_zero, List.set_cons_succ, List.set_cons_zero, List.setIfInBounds_toArray] at e1 d3
      go_still_tail 7, (by kernel_rfl)
      change wpList _ _ _ _ _ W3.drew
      clear d3 e1
      have HBb := Lib.hid (HB3.out.drew)
      have HXb := Lib.hid (HX3.out.drew)
      have HOb := Lib.hid (HO3.out.drew)
      have HTb := Lib.hid (HT3.out.drew)
      generalize W3.drew = Wb3 at *
      have d3 := HBb.out.cell 3
      have f3 := HBb.out.frozen 3
      have e0 := HXb.out.cell 0
      simp only [List.getElem?_toArray, List.getElem?_cons_succ, List.getElem?_cons_zero, List.set_cons_succ, List.set_cons_zero, List.setIfInBounds_toArray] at d3 e0
      have e1 := HXb.out.cell 1
      have t0 := HTb.out.cell 0
      have u0 := HTb.out.frozen 0
      have t1 := HTb.out.cell 1
      have u1 := HTb.out.frozen 1
      simp only [List.getElem?_toArray, List.getElem?_cons_succ, List.getElem?_cons_zero, List.set_cons_succ, List.set_cons_zero, List.setIfInBounds_toArray] at e1 t0 t1
      go_wp2_with fail
      have hwQ : Q ≠ (⟨w.heap.size, 0, none⟩ : Addr).block := by simp; omega
      obtain rfl : cells = [] := List.eq_nil_of_length_eq_zero (by have := HR.out.len; simp only [List.length_cons] at this; omega)
      refine bodyPost_ret (v := .tuple #[.agg #[.int .i64 x, .int .i64 y], .bool true]) (by simp [results, Try.results35, go_sem, t0, t1]) rfl ⟨rfl, [], ⟨_, _, ?_, Row.nil _ _ _ (some ⟨q, 0, none⟩)⟩, ?_, ?_⟩
      · rw [show bytes - (sum - s) = bytes - sum + s by omega]
        exact (((HBb.out.set_ 3 (.int .i64 (sum - s))).far (p := ⟨w.heap.size, 0, none⟩) hwQ _).far (p := ⟨w.heap.size, 1, none⟩) hwQ _)
      · exact (((HOb.out.setCell (p := ⟨Q, 3, none⟩) (.inl (by simp)) _).setCell (p := ⟨w.heap.size, 0, none⟩) (.inr (Nat.le_refl _)) _).setCell (p := ⟨w.heap.size, 1, none⟩) (.inr (Nat.le_refl _)) _)
      · intro k hk
        cases hk
  · obtain rfl : c = 1 := by omega
    go_region_law (fail)
    all_goals
      go_wp2_with fail
      have HB2 := Lib.hid (HBa.out.set_ 4 (.slice (some ⟨q, 0, none⟩) 0 0))
      have HX2 := Lib.hid (HXa.out.far (p := ⟨Q, 4, none⟩) (by simp; omega) (.slice (some ⟨q, 0, none⟩) 0 0))
      have HO2 := Lib.hid (HOa.out.setCell (p := ⟨Q, 4, none⟩) (.inl (by simp)) (.slice (some ⟨q, 0, none⟩) 0 0))
      have HT2 := Lib.hid (HTa.out.far (p := ⟨Q, 4, none⟩) (by simp; omega) (.slice (some ⟨q, 0, none⟩) 0 0))
      clear d4 f4
      rw [World.setCell_drew] at HB2 HX2 HO2 HT2
      generalize (W.setCell ⟨Q, 4, none⟩ (.slice (some ⟨q, 0, none⟩) 0 0)).drew = W2 at *
      have e1 := HX2.out.cell 2
      have d2 := HB2.out.cell 2
      simp only [List.getElem?_toArray, List.getElem?_cons_succ, List.getElem?_cons_zero, List.set_cons_succ, List.set_cons_zero, List.setIfInBounds_toArray] at e1 d2
      go_still_tail 7, (by kernel_rfl)
      change wpList _ _ _ _ _ W2.drew
      clear d2 e1
      have HBb := Lib.hid (HB2.out.drew)
      have HXb := Lib.hid (HX2.out.drew)
      have HOb := Lib.hid (HO2.out.drew)
      have HTb := Lib.hid (HT2.out.drew)
      generalize W2.drew = Wb2 at *
      have d2 := HBb.out.cell 2
      have f2 := HBb.out.frozen 2
      have e0 := HXb.out.cell 0
      simp only [List.getElem?_toArray, List.getElem?_cons_succ, List.getElem?_cons_zero, List.set_cons_succ, List.set_cons_zero, List.setIfInBounds_toArray] at d2 e0
      go_wp2_with fail
      clear d2 f2 e0
      have HB3 := Lib.hid (HBb.out.set_ 2 (.int .i64 (bytes - sum + s)))
      have HX3 := Lib.hid (HXb.out.far (p := ⟨Q, 2, none⟩) (by simp; omega) (.int .i64 (bytes - sum + s)))
      have HO3 := Lib.hid (HOb.out.setCell (p := ⟨Q, 2, none⟩) (.inl (by simp)) (.int .i64 (bytes - sum + s)))
      have HT3 := Lib.hid (HTb.out.far (p := ⟨Q, 2, none⟩) (by simp; omega) (.int .i64 (bytes - sum + s)))
      generalize Wb2.setCell ⟨Q, 2, none⟩ (.int .i64 (bytes - sum + s)) = W3 at *
      clear HBb HXb HOb HTb
      have e1 := HX3.out.cell 2
      have d3 := HB3.out.cell 3
      simp only [List.getElem?_toArray, List.getElem?_cons_succ, List.getElem?_cons_zero, List.set_cons_succ, List.set_cons_zero, List.setIfInBounds_toArray] at e1 d3
      go_still_tail 7, (by kernel_rfl)
      change wpList _ _ _ _ _ W3.drew
      clear d3 e1
      have HBb := Lib.hid (HB3.out.drew)
      have HXb := Lib.hid (HX3.out.drew)
      have HOb := Lib.hid (HO3.out.drew)
      have HTb := Lib.hid (HT3.out.drew)
      generalize W3.drew = Wb3 at *
      have d3 := HBb.out.cell 3
      have f3 := HBb.out.frozen 3
      have e0 := HXb.out.cell 0
      simp only [List.getElem?_toArray, List.getElem?_cons_succ, List.getElem?_cons_zero, List.set_cons_succ, List.set_cons_zero, List.setIfInBounds_toArray] at d3 e0
      have e1 := HXb.out.cell 1
      have t0 := HTb.out.cell 0
      have u0 := HTb.out.frozen 0
      have t1 := HTb.out.cell 1
      have u1 := HTb.out.frozen 1
      simp only [List.getElem?_toArray, List.getElem?_cons_succ, List.getElem?_cons_zero, List.set_cons_succ, List.set_cons_zero, List.setIfInBounds_toArray] at e1 t0 t1
      go_wp2_with fail
      have hwQ : Q ≠ (⟨w.heap.size, 0, none⟩ : Addr).block := by simp; omega
      obtain rfl : cells = [] := List.eq_nil_of_length_eq_zero (by have := HR.out.len; simp only [List.length_cons] at this; omega)
      refine bodyPost_ret (v := .tuple #[.agg #[.int .i64 x, .int .i64 y], .bool true]) (by simp [results, Try.results35, go_sem, t0, t1]) rfl ⟨rfl, [], ⟨_, _, ?_, Row.nil _ _ _ (some ⟨q, 0, none⟩)⟩, ?_, ?_⟩
      · rw [show bytes - (sum - s) = bytes - sum + s by omega]
        exact (((HBb.out.set_ 3 (.int .i64 (sum - s))).far (p := ⟨w.heap.size, 0, none⟩) hwQ _).far (p := ⟨w.heap.size, 1, none⟩) hwQ _)
      · exact (((HOb.out.setCell (p := ⟨Q, 3, none⟩) (.inl (by simp)) _).setCell (p := ⟨w.heap.size, 0, none⟩) (.inr (Nat.le_refl _)) _).setCell (p := ⟨w.heap.size, 1, none⟩) (.inr (Nat.le_refl _)) _)
      · intro k hk
        cases hk

set_option maxRecDepth 100000 in
set_option maxHeartbeats 1600000 in
theorem popArr_more (Q : Nat) (F : List Nat) (g : FuncId) (count bytes sum s : Int) (x y : Int) (n c : Nat) (A : Option Addr) (cells : List Value) (w : World)
    (hb : Blk w Q 115 #[.func (.func g) #[] #[], .int .i64 count, .int .i64 (bytes - sum), .int .i64 sum, .slice A (n + 2) c]) (hr : Row w 122 3 F A (n + 2) c (.int .i64 x :: .int .i64 y :: .int .i64 s :: cells))
    (h1 : n ≤ 64) (hc1 : ∀ u ∈ cells, u.oneCell' = true) (h0 : 0 ≤ s) (h3 : s ≤ sum) (h5 : sum ≤ bytes) (h6 : bytes ≤ 9223372036854775807) :
    Calls Try.prog 35 #[.pointer (some ⟨Q, 0, none⟩)] w fun e w' => e = .returned (.tuple #[.agg #[.int .i64 x, .int .i64 y], .bool true]) ∧ ∃ F', QRep w' 115 122 3 Q F' g count bytes (n + 1) (sum - s) cells ∧ Only (Q :: F) w w' ∧ ∀ k ∈ F', k ∈ F ∨ w.heap.size ≤ k := by
  obtain ⟨i0, hi, hz0, hz1, hz2⟩ := info_parts Try.infoItemA
  obtain ⟨hcl, hcm⟩ := hr.le
  unfold maxLen at hcm
  obtain ⟨q, rfl, rfl, r0⟩ := hr.cellAt (j := 0) (u := .int .i64 x) rfl
  obtain ⟨q1, e1, e2, r1⟩ := hr.cellAt (j := 1) (u := .int .i64 y) rfl
  injection e1 with e1
  injection e1 with e1
  subst e1
  clear e2
  obtain ⟨q2, e1, e2, r2⟩ := hr.cellAt (j := 2) (u := .int .i64 s) rfl
  injection e1 with e1
  injection e1 with e1
  subst e1
  clear e2
  have c2 : w.cell? ⟨Q, 2, none⟩ = some (.int .i64 (bytes - sum)) := hb.cell 2
  have c3 : w.cell? ⟨Q, 3, none⟩ = some (.int .i64 sum) := hb.cell 3
  have c4 : w.cell? ⟨Q, 4, none⟩ = some (.slice (some ⟨q, 0, none⟩) (n + 2) c) := hb.cell 4
  have hlq : q < w.heap.size := hr.lt q (by simp)
  have hqQ : Q ≠ q := fun h => hr.ne_blk hb (by decide) (by simp [h])
  have hlQ := hb.lt
  have HB := Lib.hid hb; clear hb
  have HR := Lib.hid hr; clear hr
  have HI := Lib.hid hi; clear hi
  have HZ0 := Lib.hid hz0; clear hz0
  have HZ1 := Lib.hid hz1; clear hz1
  have HZ2 := Lib.hid hz2; clear hz2
  have HB0 := Lib.hid ((HB.out.alloc (.cells #[.int .i64 0, .int .i64 0] 51)).alloc (.cells #[.int .i64 x, .int .i64 y, .int .i64 s] 122))
  have HX := Lib.hid (Blk.new (w.alloc (.cells #[.int .i64 0, .int .i64 0] 51)) 122 #[.int .i64 x, .int .i64 y, .int .i64 s])
  have HT := Lib.hid ((Blk.new w 51 #[.int .i64 0, .int .i64 0]).alloc (.cells #[.int .i64 x, .int .i64 y, .int .i64 s] 122))
  have HR0 := Lib.hid ((HR.out.alloc (.cells #[.int .i64 0, .int .i64 0] 51)).alloc (.cells #[.int .i64 x, .int .i64 y, .int .i64 s] 122))
  have HO0 := Lib.hid (((Only.refl (Q :: [q]) w).alloc (.cells #[.int .i64 0, .int .i64 0] 51)).alloc (.cells #[.int .i64 x, .int .i64 y, .int .i64 s] 122))
  have HS0 := Lib.hid (show ((w.alloc (.cells #[.int .i64 0, .int .i64 0] 51)).alloc (.cells #[.int .i64 x, .int .i64 y, .int .i64 s] 122)).heap.size = w.heap.size + 1 + 1 by rw [World.size_alloc, World.size_alloc])
  rw [World.size_alloc] at HX
  have HBa := Lib.hid (HB0.out.drew)
  have HXa := Lib.hid (HX.out.drew)
  have HRa := Lib.hid (HR0.out.drew)
  have HOa := Lib.hid (HO0.out.drew)
  have HTa := Lib.hid (HT.out.drew)
  have hqf : Q ∉ [q] := fun h => hqQ (by simpa using h)
  go_enter Try.func35, Try.ntmps35
  go_wp2_with fail
  generalize ((w.alloc (.cells #[.int .i64 0, .int .i64 0] 51)).alloc (.cells #[.int .i64 x, .int .i64 y, .int .i64 s] 122)) = W at *
  have d4 := HB0.out.cell 4
  have f4 := HB0.out.frozen 4
  simp only [List.getElem?_toArray, List.getElem?_cons_succ, List.getElem?_cons_zero] at d4
  have k1 : (1 : Int) ≤ ((n + 2 : Nat) : Int) := by omega
  have k2 : ¬ c = 1 := by omega
  have k3 : (1 : Int) ≤ (n : Int) + 2 := by omega
  have k5 : ((n + 2 : Nat) : Int) ≤ (c : Int) := by omega
  have k4 : (1 : Int) ≤ (c : Int) := by omega
  have HL := Lib.hid (show cells.length = (n + 1) * 3 by have := HRa.out.len; simp only [List.length_cons] at this; omega)
  have HN : Hid (∀ j u, cells[j]? = some u → W.drew.cell? ((⟨q, 3, none⟩ : Addr).add j) = some u) := by
    intro j u hu
    obtain ⟨q9, e9, _, h9⟩ := HRa.out.cellAt (j := 3 + j) (u := u) (by rw [Nat.add_comm]; exact hu)
    injection e9 with e9
    injection e9 with e9
    subst e9
    rw [Addr.add_lit]
    exact h9
  have HC := Lib.hid hc1; clear hc1
  go_region_law (first | (refine step_append_row _ rfl (.tmp 24) (.tmp 29) 113 rfl 122 i0 _ 3 24 Try.underlying113 HI.out HZ0.out HZ1.out HZ2.out rfl (by decide) [] (some ⟨q, 0, none⟩) 0 0 [] rfl (Row.nil _ _ _ _) ⟨q, 3, none⟩ (n + 1) (c - 1) cells rfl HL.out HN.out HC.out (by omega) (by unfold maxLen; omega) (by omega) ?_; intro g1 cap w1 hR1 hO1 hg1; have HB1 := Lib.hid (HBa.out.only hO1 (by simp)); have d4 := HB1.out.cell 4; have f4 := HB1.out.frozen 4; simp only [List.getElem?_toArray, List.getElem?_cons_succ, List.getElem?_cons_zero] at d4; have HR1 := Lib.hid hR1; have HO1 := Lib.hid hO1; have HG1 := Lib.hid hg1; clear hR1 hO1 hg1))
  all_goals
    go_wp2_with fail
    have hq : Q ∉ [g1] := HR1.out.ne_blk HB1.out (by decide)
    have hg9 : W.heap.size ≤ g1 := by
      rcases HG1.out with h | h
      · cases h
      · exact h
    have HB2 := Lib.hid (HB1.out.set_ 4 (.slice (some ⟨g1, 0, none⟩) (0 + (n + 1)) cap))
    have HX2 := Lib.hid ((HXa.out.only HO1.out (by simp)).far (p := ⟨Q, 4, none⟩) (by simp; omega) (.slice (some ⟨g1, 0, none⟩) (0 + (n + 1)) cap))
    have HR2 := Lib.hid (HR1.out.setFar (p := ⟨Q, 4, none⟩) hq (.slice (some ⟨g1, 0, none⟩) (0 + (n + 1)) cap))
    have HO2 := Lib.hid ((HOa.out.trans HO1.out (by simp)).setCell (p := ⟨Q, 4, none⟩) (.inl (by simp)) (.slice (some ⟨g1, 0, none⟩) (0 + (n + 1)) cap))
    have HT2 := Lib.hid ((HTa.out.only HO1.out (by simp)).far (p := ⟨Q, 4, none⟩) (by simp; omega) (.slice (some ⟨g1, 0, none⟩) (0 + (n + 1)) cap))
    rw [Nat.zero_add] at HB2 HX2 HR2 HO2 HT2
    rw [List.nil_append] at HR2
    clear d4 f4 k1 k2 k3 k4 k5
    generalize w1.setCell ⟨Q, 4, none⟩ (.slice (some ⟨g1, 0, none⟩) (n + 1) cap) = W2 at *
    have e1 := HX2.out.cell 2
    have d2 := HB2.out.cell 2
    simp only [List.getElem?_toArray, List.getElem?_cons_succ, List.getElem?_cons_zero, List.set_cons_succ, List.set_cons_zero, List.setIfInBounds_toArray] at e1 d2
    go_still_tail 7, (by kernel_rfl)
    change wpList _ _ _ _ _ W2.drew
    clear d2 e1
    have HBb := Lib.hid (HB2.out.drew)
    have HXb := Lib.hid (HX2.out.drew)
    have HOb := Lib.hid (HO2.out.drew)
    have HRb := Lib.hid (HR2.out.drew)
    have HTb := Lib.hid (HT2.out.drew)
    generalize W2.drew = Wb2 at *
    have d2 := HBb.out.cell 2
    have f2 := HBb.out.frozen 2
    have e0 := HXb.out.cell 0
    simp only [List.getElem?_toArray, List.getElem?_cons_succ, List.getElem?_cons_zero, List.set_cons_succ, List.set_cons_zero, List.setIfInBounds_toArray] at d2 e0
    go_wp2_with fail
    clear d2 f2 e0
    have HB3 := Lib.hid (HBb.out.set_ 2 (.int .i64 (bytes - sum + s)))
    have HX3 := Lib.hid (HXb.out.far (p := ⟨Q, 2, none⟩) (by simp; omega) (.int .i64 (bytes - sum + s)))
    have HO3 := Lib.hid (HOb.out.setCell (p := ⟨Q, 2, none⟩) (.inl (by simp)) (.int .i64 (bytes - sum + s)))
    have HR3 := Lib.hid (HRb.out.setFar (p := ⟨Q, 2, none⟩) hq (.int .i64 (bytes - sum + s)))
    have HT3 := Lib.hid (HTb.out.far (p := ⟨Q, 2, none⟩) (by simp; omega) (.int .i64 (bytes - sum + s)))
    generalize Wb2.setCell ⟨Q, 2, none⟩ (.int .i64 (bytes - sum + s)) = W3 at *
    clear HBb HXb HOb HRb HTb
    have e1 := HX3.out.cell 2
    have d3 := HB3.out.cell 3
    simp only [List.getElem?_toArray, List.getElem?_cons_succ, List.getElem?_cons_zero, List.set_cons_succ, List.set_cons_zero, List.setIfInBounds_toArray] at e1 d3
    go_still_tail 7, (by kernel_rfl)
    change wpList _ _ _ _ _ W3.drew
    clear d3 e1
    have HBb := Lib.hid (HB3.out.drew)
    have HXb := Lib.hid (HX3.out.drew)
    have HOb := Lib.hid (HO3.out.drew)
    have HRb := Lib.hid (HR3.out.drew)
    have HTb := Lib.hid (HT3.out.drew)
    generalize W3.drew = Wb3 at *
    have d3 := HBb.out.cell 3
    have f3 := HBb.out.frozen 3
    have e0 := HXb.out.cell 0
    simp only [List.getElem?_toArray, List.getElem?_cons_succ, List.getElem?_cons_zero, List.set_cons_succ, List.set_cons_zero, List.setIfInBounds_toArray] at d3 e0
    have e1 := HXb.out.cell 1
    have t0 := HTb.out.cell 0
    have u0 := HTb.out.frozen 0
    have t1 := HTb.out.cell 1
    have u1 := HTb.out.frozen 1
    simp only [List.getElem?_toArray, List.getElem?_cons_succ, List.getElem?_cons_zero, List.set_cons_succ, List.set_cons_zero, List.setIfInBounds_toArray] at e1 t0 t1
    go_wp2_with fail
    have hwQ : Q ≠ (⟨w.heap.size, 0, none⟩ : Addr).block := by simp; omega
    have hwt : (⟨w.heap.size, 0, none⟩ : Addr).block ∉ [g1] := by have := HS0.out; simp; omega
    refine bodyPost_ret (v := .tuple #[.agg #[.int .i64 x, .int .i64 y], .bool true]) (by simp [results, Try.results35, go_sem, t0, t1]) rfl ⟨rfl, [g1], ⟨_, _, ?_, (((HRb.out.setFar (p := ⟨Q, 3, none⟩) hq _).setFar (p := ⟨w.heap.size, 0, none⟩) hwt _).setFar (p := ⟨w.heap.size, 1, none⟩) hwt _)⟩, ?_, ?_⟩
    · rw [show bytes - (sum - s) = bytes - sum + s by omega]
      exact (((HBb.out.set_ 3 (.int .i64 (sum - s))).far (p := ⟨w.heap.size, 0, none⟩) hwQ _).far (p := ⟨w.heap.size, 1, none⟩) hwQ _)
    · exact (((HOb.out.setCell (p := ⟨Q, 3, none⟩) (.inl (by simp)) _).setCell (p := ⟨w.heap.size, 0, none⟩) (.inr (Nat.le_refl _)) _).setCell (p := ⟨w.heap.size, 1, none⟩) (.inr (Nat.le_refl _)) _)
    · intro k hk
      right
      have : k = g1 := by simpa using hk
      have := HS0.out
      omega
end Go.Proofs.Ytjlnkfbhbiinoaa
