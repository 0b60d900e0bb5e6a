/-
  The source of identifications: New, Next and Busy.
-/
import Derived.Test.YtjlnkfbhbiinoaaIdb
import Derived.Test.YtjlnkfbhbiinoaaIdm
import Derived.Test.YtjlnkfbhbiinoaaIdc
import Derived.Test.YtjlnkfbhbiinoaaRowAny
import Derived.Laws.EntriesVeiled
namespace Go.Proofs.Ytjlnkfbhbiinoaa
open Go.RowKit
set_option linter.unusedVariables false
set_option linter.unusedSimpArgs false
attribute [local go_sem ↓] Go.wp_at_zero Go.wp_at_succ


section
variable {w : World} {S V : Nat} {F : List Nat} {space life now : Int} {G : List Int}
set_option maxRecDepth 100000 in
set_option maxHeartbeats 6400000 in
/-- A number is given. -/
theorem next_ok (h : SI w S V F space life G) (hm : idMay G now = true) (hf : idFull space life G now = false) :
    Calls Try.prog 48 #[.pointer (some ⟨S, 0, none⟩), .int .i64 now] w (SPost w S V F space life (G ++ [now]) (.tuple #[.int .u32 ((G.length : Int) % space), .int .i64 0])) := by
  obtain ⟨i0, hi, hz0, hz1, hz2⟩ := info_parts Try.infoI64
  have HI := Lib.hid hi; clear hi
  have HZ0 := Lib.hid hz0; clear hz0
  have HZ1 := Lib.hid hz1; clear hz1
  have HZ2 := Lib.hid hz2; clear hz2
  obtain ⟨A, n, c, head, xs, hr, hx, h2, hg⟩ := h
  have hm2 : (decide (lastOf G ≤ now) && decide (now ≤ 1099511627776)) = true := hm
  have HM := Lib.hid hm2
  simp only [Bool.and_eq_true, decide_eq_true_eq] at hm2
  obtain ⟨hn1, hn2⟩ := hm2
  have hn0 := hg.last
  have hs1 := hg.sp1
  have hs2 := hg.sp2
  have hl0 := hg.l0
  have hl1 := hg.l1
  have hcnt := hg.cnt
  have e6 : w.cell? ⟨S, 6, none⟩ = some (.func (.func 56) #[] #[.pointer (some ⟨V, 0, none⟩)]) := hr.b.cell 6
  have e2 : w.cell? ⟨S, 2, none⟩ = some (.int .i64 (lastOf G)) := hr.b.cell 2
  have hSV : S ≠ V := hr.b.ne_ hr.v (by decide)
  have HV0 := Lib.hid hr.v
  have hasc : (xs.drop head).Pairwise (· ≤ ·) := by rw [hx]; exact hg.asc.filter _
  have hbd : ∀ y ∈ xs.drop head, 0 ≤ y ∧ y ≤ 1099511627776 := by rw [hx]; intro y hy; exact hg.bd y (List.mem_filter.1 hy).1
  have HFR := Lib.hid (free_any S V F space _ _ life now A n c head xs w hr hasc hbd (by omega) hn2)
  have HR := Lib.hid hr
  have HX := Lib.hid hx
  have HG := Lib.hid hg
  have hlen := hr.len
  have hhd := hr.hd
  have hbig := hr.big
  have hln : (xs.drop head).length = n - head := by rw [List.length_drop, hlen]
  have hnb : n - head ≤ 4294967296 := by rw [← hln, hx]; omega
  have HLN := Lib.hid hln
  have HLEN := Lib.hid hlen
  have HF := Lib.hid hf
  obtain ⟨nx, hnx⟩ : ∃ nx, (G.length : Int) % space = nx := ⟨_, rfl⟩
  have hnx0 : 0 ≤ nx := by rw [← hnx]; exact Int.emod_nonneg _ (by omega)
  have hnx1 : nx < space := by rw [← hnx]; exact Int.emod_lt_of_pos _ (by omega)
  have HNX := Lib.hid hnx
  have HNE : Hid (((G.length + [now].length : Nat) : Int) % space = (nx + 1) % space) := by unfold Hid; rw [← hnx]; simp [Int.add_emod]
  have HSFR := Lib.hid (hr.r.ne_blk hr.b (by decide))
  have HFL := Lib.hid hr.r.lt
  have hcc := hr.r.le
  unfold maxLen at hcc
  obtain ⟨hc1, hc2⟩ := hcc
  clear hr hx hg hasc hbd hlen hln hm hf hcnt
  rw [hnx] at HR ⊢
  clear hnx
  go_enter Try.func48, Try.ntmps48
  go_wp2_with fail
  refine (may_any S V (lastOf G) now #[] _ HV0.out e2).mono ?_
  rintro e w' ⟨rfl, rfl⟩
  rw [HM.out]
  go_wp2_with fail
  refine HFR.out.mono ?_
  rintro e w1 ⟨K, rfl, hK, hb1, hb2, ho⟩
  have hB := busyL_drop hn1 (by rw [← HX.out]; exact hb1) (by rw [← HX.out]; exact hb2)
  rw [← HX.out, List.drop_drop] at hB
  have hmn : head + K ≤ n := by have := HLN.out; omega
  have hBl : ((busyL life now G).length : Int) = (n : Int) - ((head + K : Nat) : Int) := by
    rw [← hB, List.length_drop, HLEN.out]
    omega
  have hsp : (n : Int) - ((head + K : Nat) : Int) < space := by have := HF.out; unfold idFull at this; simp only [decide_eq_false_iff_not] at this; omega
  rw [show (head : Int) + (K : Int) = ((head + K : Nat) : Int) by omega]
  generalize head + K = m at *
  have HBD := Lib.hid hB
  have HBL := Lib.hid hBl
  have HO := Lib.hid ho
  have HB1 := Lib.hid (HR.out.b.only ho (by simp))
  have HV1 := Lib.hid (HR.out.v.only ho (by simp))
  have HRW1 := Lib.hid (HR.out.r.only ho (by simp))
  clear hB hBl hb1 hb2 hK ho e2 e6
  have hnf : decide (space ≤ (n : Int) - (m : Int)) = false := by simp; omega
  have d0 := HB1.out.cell 0
  have d4 := HB1.out.cell 4
  simp only [List.getElem?_toArray, List.getElem?_cons_succ, List.getElem?_cons_zero, List.set_cons_succ, List.set_cons_zero, List.setIfInBounds_toArray] at d0 d4
  go_wp2_with fail
  go_quiet (fail)
  have HB2 := Lib.hid (HB1.out.drewN nq)
  have HV2 := Lib.hid (HV1.out.drewN nq)
  have HRW2 := Lib.hid (HRW1.out.drewN nq)
  have HON2 := Lib.hid ((HO.out.drewN nq).mono (G := S :: V :: F) (by simp))
  generalize w1.drewN nq = W2 at *
  clear d0 d4
  have d2 := HB2.out.cell 2
  have d5 := HB2.out.cell 5
  have f2 := HB2.out.frozen 2
  have f5 := HB2.out.frozen 5
  simp only [List.getElem?_toArray, List.getElem?_cons_succ, List.getElem?_cons_zero, List.set_cons_succ, List.set_cons_zero, List.setIfInBounds_toArray] at d2 d5
  go_wp2_with fail
  have HB3 := Lib.hid ((HB2.out.set_ 5 (.int .i64 m)).set_ 2 (.int .i64 now))
  have HV3 := Lib.hid ((HV2.out.far (p := ⟨S, 5, none⟩) (by simp; omega) (.int .i64 m)).far (p := ⟨S, 2, none⟩) (by simp; omega) (.int .i64 now))
  have HRW3 := Lib.hid ((HRW2.out.setFar (p := ⟨S, 5, none⟩) HSFR.out (.int .i64 m)).setFar (p := ⟨S, 2, none⟩) HSFR.out (.int .i64 now))
  have HON3 := Lib.hid ((HON2.out.setCell (p := ⟨S, 5, none⟩) (.inl (by simp)) (.int .i64 m)).setCell (p := ⟨S, 2, none⟩) (.inl (by simp)) (.int .i64 now))
  generalize (W2.setCell ⟨S, 5, none⟩ (.int .i64 m)).setCell ⟨S, 2, none⟩ (.int .i64 now) = W3 at *
  simp only [List.getElem?_toArray, List.getElem?_cons_succ, List.getElem?_cons_zero, List.set_cons_succ, List.set_cons_zero, List.setIfInBounds_toArray] at HB3
  clear d2 d5 f2 f5
  have d4 := HB3.out.cell 4
  have d5 := HB3.out.cell 5
  simp only [List.getElem?_toArray, List.getElem?_cons_succ, List.getElem?_cons_zero, List.set_cons_succ, List.set_cons_zero, List.setIfInBounds_toArray] at d4 d5
  go_quiet (fail)
  have HB4 := Lib.hid (HB3.out.drewN nq)
  have HV4 := Lib.hid (HV3.out.drewN nq)
  have HRW4 := Lib.hid (HRW3.out.drewN nq)
  have HON4 := Lib.hid (HON3.out.drewN nq)
  generalize W3.drewN nq = W4 at *
  clear d4 d5 HB1 HB2 HB3 HV1 HV2 HV3 HRW1 HRW2 HRW3 HON2 HON3 HO HFR HM HX HLN
  by_cases hcp : n / 2 < m
  · obtain ⟨q, cur, hFq, hAq, hbq, _, _⟩ := HRW4.out.blk (by omega)
    subst hFq hAq
    have hSq := HSFR.out
    have HVQ : Hid (V ∉ [q]) := HRW4.out.ne_blk HV4.out (by decide)
    have HRa := Lib.hid (HRW4.out.drew)
    have HRT := Lib.hid (HRa.out.takeZero)
    have HBa := Lib.hid (HB4.out.drew)
    have hdc : decide ((n : Int) / 2 < (m : Int)) = true := by simp; omega
    have k1 : (0 : Int) ≤ (m : Int) := by omega
    have k2 : (m : Int) ≤ (n : Int) := by omega
    have k3 : (n : Int) ≤ (c : Int) := by omega
    have k5 : (0 : Int) ≤ (c : Int) := by omega
    obtain ⟨k, hk⟩ : ∃ k, k = n - m := ⟨_, rfl⟩
    have hkn : k ≤ n := by omega
    have hkn2 : k ≤ 4294967296 := by omega
    have HK := Lib.hid hk
    clear hk
    have HL9 : Hid (((xs.drop m).map (Value.int .i64)).length = k * 1) := by unfold Hid; rw [List.length_map, List.length_drop, HLEN.out, Nat.mul_one, HK.out]
    have HN9 : Hid (∀ j u, ((xs.drop m).map (Value.int .i64))[j]? = some u → W4.drew.cell? ((⟨q, m, none⟩ : Addr).add j) = some u) := by
      intro j u hu
      obtain ⟨q9, e9, _, h9⟩ := HRa.out.cellAt (j := m + j) (u := u) (by rw [← hu, List.map_drop, List.getElem?_drop])
      injection e9 with e9
      injection e9 with e9
      subst e9
      rw [Addr.add_lit]
      exact h9
    have HC9 : Hid (∀ u ∈ (xs.drop m).map (Value.int .i64), u.oneCell' = true) := by
      intro u hu
      obtain ⟨y, _, rfl⟩ := List.mem_map.1 hu
      rfl
    go_wp2_with fail
    by_cases hcm : c = m
    · have hnm : n = m := by omega
      have HK0 : Hid (k = 0) := by have := HK.out; unfold Hid; omega
      have HN0 : Hid (∀ j u, ((xs.drop m).map (Value.int .i64))[j]? = some u → W4.drew.cell? ((⟨q, 0, none⟩ : Addr).add j) = some u) := by
        intro j u hu
        have h0 := HL9.out
        rw [HK0.out, Nat.zero_mul] at h0
        rw [List.eq_nil_of_length_eq_zero h0] at hu
        simp at hu
      have d4 := HB4.out.cell 4
      have d5 := HB4.out.cell 5
      have f4 := HB4.out.frozen 4
      simp only [List.getElem?_toArray, List.getElem?_cons_succ, List.getElem?_cons_zero, List.set_cons_succ, List.set_cons_zero, List.setIfInBounds_toArray] at d4 d5
      go_region_law (fail)
      all_goals
        have hc8 : 0 ≤ m := Nat.zero_le _
        have HB7 := Lib.hid ((HB4.out.set_ 4 (.slice (some ⟨q, 0, none⟩) 0 m)).drew)
        have HV7 := Lib.hid ((HV4.out.far (p := ⟨S, 4, none⟩) (by simp; omega) (.slice (some ⟨q, 0, none⟩) 0 m)).drew)
        have HR7 := Lib.hid (((HRW4.out.takeZero).setFar (p := ⟨S, 4, none⟩) hSq (.slice (some ⟨q, 0, none⟩) 0 m)).drew)
        have HON7 := Lib.hid ((HON4.out.setCell (p := ⟨S, 4, none⟩) (.inl (by simp)) (.slice (some ⟨q, 0, none⟩) 0 m)).drew)
        rw [hcm] at HR7
        generalize (W4.setCell ⟨S, 4, none⟩ (.slice (some ⟨q, 0, none⟩) 0 m)).drew = W7 at *
        simp only [List.getElem?_toArray, List.getElem?_cons_succ, List.getElem?_cons_zero, List.set_cons_succ, List.set_cons_zero, List.setIfInBounds_toArray] at HB7
        clear d4 d5
        have hnil : xs.drop m = [] := by
          apply List.eq_nil_of_length_eq_zero
          rw [List.length_drop, HLEN.out]; omega
        have HB := Lib.hid (HB7.out.set_ 5 (.int .i64 0))
        simp only [List.getElem?_toArray, List.getElem?_cons_succ, List.getElem?_cons_zero, List.set_cons_succ, List.set_cons_zero, List.setIfInBounds_toArray] at HB
        have HV := Lib.hid (HV7.out.far (p := ⟨S, 5, none⟩) (by simp; omega) (.int .i64 0))
        have HROW := Lib.hid (HR7.out.setFar (p := ⟨S, 5, none⟩) hSq (.int .i64 0))
        have HON := Lib.hid (HON7.out.setCell (p := ⟨S, 5, none⟩) (.inl (by simp)) (.int .i64 0))
        have HDROP : Hid (([] : List Int).drop 0 = busyL life now G) := by have h0 := HBD.out; rw [hnil] at h0; exact h0
        clear hnil
        have HLEN1 : Hid (([] : List Int).length = 0) := rfl
        have HSF0 := HSFR
        have hh1 : 0 ≤ 0 := Nat.le_refl _
        have HFR9 : Hid (∀ k ∈ [q], k ∈ [q] ∨ w.heap.size ≤ k) := fun k hk => .inl hk
        have HFF : Hid (∀ k ∈ [q], k ∈ S :: V :: [q] ∨ w.heap.size ≤ k) := fun k hk => .inl (by simp at hk; simp [hk])
        have HWS := Lib.hid HON.out.size
        have d5 := HB7.out.cell 5
        have f5 := HB7.out.frozen 5
        simp only [List.getElem?_toArray, List.getElem?_cons_succ, List.getElem?_cons_zero, List.set_cons_succ, List.set_cons_zero, List.setIfInBounds_toArray] at d5
        by_cases hlife : 0 < life
        · have e3 := HB7.out.cell 3
          have e4 := HB7.out.cell 4
          have e1 := HB7.out.cell 1
          have e0 := HB7.out.cell 0
          simp only [List.getElem?_toArray, List.getElem?_cons_succ, List.getElem?_cons_zero, List.set_cons_succ, List.set_cons_zero, List.setIfInBounds_toArray] at e3 e4 e1 e0
          have hlp : 0 < life := hlife
          have d3 := HB.out.cell 3
          have d4 := HB.out.cell 4
          have d1 := HB.out.cell 1
          have d0 := HB.out.cell 0
          simp only [List.getElem?_toArray, List.getElem?_cons_succ, List.getElem?_cons_zero, List.set_cons_succ, List.set_cons_zero, List.setIfInBounds_toArray] at d3 d4 d1 d0
          have HD := Lib.hid HDROP.out
          go_wp2_with (at_builtin; refine wpList_append_row _ rfl (.tmp 79) (.tmp 81) 93 rfl 2 i0 _ 1 8 Try.underlying93 HI.out HZ0.out HZ1.out HZ2.out rfl (by decide) [q] (some ⟨q, 0, none⟩) 0 m (([] : List Int).map (Value.int .i64)) rfl (HROW.out.alloc _) ⟨W7.heap.size, 0, none⟩ 1 1 [.int .i64 now] rfl rfl (by have h0 := news_of_new (W7.setCell ⟨S, 5, none⟩ (.int .i64 0)) 2 [.int .i64 now]; have h1 : ((W7.setCell ⟨S, 5, none⟩ (.int .i64 0))).heap.size = W7.heap.size := (by simp); rw [h1] at h0; exact h0) (by simp [Value.oneCell']) (by decide) (by unfold maxLen; omega) (by omega) ?_; intro g1 cap w5 hR5 hO5 hg5; have HB5 := Lib.hid ((HB.out.alloc _).only hO5 HSF0.out); have d4 := HB5.out.cell 4; have d1 := HB5.out.cell 1; have f4 := HB5.out.frozen 4; simp only [List.getElem?_toArray, List.getElem?_cons_succ, List.getElem?_cons_zero, List.set_cons_succ, List.set_cons_zero, List.setIfInBounds_toArray] at d4 d1; have HR5 := Lib.hid hR5; have HO5 := Lib.hid hO5; have HG5 := Lib.hid hg5; clear hR5 hO5 hg5)
          clear d0 d1 d3 d4 f4
          have hSg : S ∉ [g1] := HR5.out.ne_blk HB5.out (by decide)
          have HSF := Lib.hid hSg
          have hVF : V ∉ [q] := HROW.out.ne_blk HV.out (by decide)
          have HV6 := Lib.hid (((HV.out.alloc (.cells #[.int .i64 now] 2)).only HO5.out hVF).far (p := ⟨S, 4, none⟩) (by simp; omega) (.slice (some ⟨g1, 0, none⟩) 1 cap))
          have HB6 := Lib.hid (HB5.out.set_ 4 (.slice (some ⟨g1, 0, none⟩) 1 cap))
          have HR6 := Lib.hid (HR5.out.setFar (p := ⟨S, 4, none⟩) hSg (.slice (some ⟨g1, 0, none⟩) 1 cap))
          have HON6 := Lib.hid (((HON.out.alloc (.cells #[.int .i64 now] 2)).trans HO5.out (fun k hk => HFF.out k hk)).setCell (p := ⟨S, 4, none⟩) (.inl (by simp)) (.slice (some ⟨g1, 0, none⟩) 1 cap))
          generalize w5.setCell ⟨S, 4, none⟩ (.slice (some ⟨g1, 0, none⟩) 1 cap) = W6 at *
          simp only [List.getElem?_toArray, List.getElem?_cons_succ, List.getElem?_cons_zero, List.set_cons_succ, List.set_cons_zero, List.setIfInBounds_toArray] at HB6
          have d0 := HB6.out.cell 0
          have d1 := HB6.out.cell 1
          have f1 := HB6.out.frozen 1
          simp only [List.getElem?_toArray, List.getElem?_cons_succ, List.getElem?_cons_zero, List.set_cons_succ, List.set_cons_zero, List.setIfInBounds_toArray] at d0 d1
          have hw9 : IntKind.i64.wrap (nx + 1) = nx + 1 := (by rw [IntKind.wrap_i64]; omega)
          have hz9 : ¬ space = 0 := (by omega)
          have ht9 : (nx + 1).tmod space = (nx + 1) % space := Int.tmod_eq_emod_of_nonneg (by omega)
          go_region_law (fail)
          all_goals
            go_wp2_with fail
            go_ret2
            refine ⟨rfl, [g1], ⟨some ⟨g1, 0, none⟩, 1, cap, 0, (([] : List Int) ++ [now]), ⟨?_, HV6.out.far (by simp; omega) _, ?_, ?_, ?_, ?_⟩, ?_, ?_, ?_⟩, ?_, ?_⟩
            · rw [List.length_append, lastOf_snoc, HNE.out]
              exact HB6.out.drew.set_ 1 (.int .i64 ((nx + 1) % space))
            · exact (show Row W6 _ _ _ _ _ _ ((([] : List Int) ++ [now]).map (Value.int .i64)) by rw [List.map_append]; exact HR6.out).drew.setFar (by simpa using HSF.out) _
            · rw [List.length_append, HLEN1.out]; rfl
            · omega
            · omega
            · rw [lastOf_snoc, busyL_snoc, List.drop_append_of_le_length (by rw [HLEN1.out]; exact hh1), HDROP.out, if_pos hlp]
            · omega
            · exact HG.out.snoc hn1 hn2 (by have := HBL.out; omega)
            · exact (HON6.out.drew).setCell (.inl (by simp)) _
            · intro k hk
              have hkg : k = g1 := by simpa using hk
              subst hkg
              rcases HG5.out with h9 | h9
              · exact HFR9.out k h9
              · right
                have := HWS.out
                simp at h9 this
                omega
        · have e3 := HB7.out.cell 3
          have e4 := HB7.out.cell 4
          have e1 := HB7.out.cell 1
          have e0 := HB7.out.cell 0
          simp only [List.getElem?_toArray, List.getElem?_cons_succ, List.getElem?_cons_zero, List.set_cons_succ, List.set_cons_zero, List.setIfInBounds_toArray] at e3 e4 e1 e0
          have hl0 : ¬ 0 < life := hlife
          have d3 := HB.out.cell 3
          have d1 := HB.out.cell 1
          have d0 := HB.out.cell 0
          simp only [List.getElem?_toArray, List.getElem?_cons_succ, List.getElem?_cons_zero, List.set_cons_succ, List.set_cons_zero, List.setIfInBounds_toArray] at d3 d1 d0
          go_wp2_with fail
          clear d0 d1 d3
          have HSF := HSF0
          have HB6 := HB
          have HV6 := HV
          generalize (W7.setCell ⟨S, 5, none⟩ (.int .i64 0)) = W6 at *
          have d0 := HB6.out.cell 0
          have d1 := HB6.out.cell 1
          have f1 := HB6.out.frozen 1
          simp only [List.getElem?_toArray, List.getElem?_cons_succ, List.getElem?_cons_zero, List.set_cons_succ, List.set_cons_zero, List.setIfInBounds_toArray] at d0 d1
          have hw9 : IntKind.i64.wrap (nx + 1) = nx + 1 := (by rw [IntKind.wrap_i64]; omega)
          have hz9 : ¬ space = 0 := (by omega)
          have ht9 : (nx + 1).tmod space = (nx + 1) % space := Int.tmod_eq_emod_of_nonneg (by omega)
          go_region_law (fail)
          all_goals
            go_wp2_with fail
            go_ret2
            refine ⟨rfl, [q], ⟨(some ⟨q, 0, none⟩), 0, m, 0, ([] : List Int), ⟨?_, HV6.out.far (by simp; omega) _, ?_, ?_, ?_, ?_⟩, ?_, ?_, ?_⟩, ?_, ?_⟩
            · rw [List.length_append, lastOf_snoc, HNE.out]
              exact HB6.out.drew.set_ 1 (.int .i64 ((nx + 1) % space))
            · exact (HROW.out.drew).setFar (by simpa using HSF.out) _
            · exact HLEN1.out
            · omega
            · omega
            · rw [lastOf_snoc, busyL_snoc, HDROP.out, if_neg (by omega), List.append_nil]
            · omega
            · exact HG.out.snoc hn1 hn2 (by have := HBL.out; omega)
            · exact (HON.out.drew).setCell (.inl (by simp)) _
            · exact fun k hk => HFR9.out k hk
    · have d4 := HB4.out.cell 4
      have d5 := HB4.out.cell 5
      have f4 := HB4.out.frozen 4
      simp only [List.getElem?_toArray, List.getElem?_cons_succ, List.getElem?_cons_zero, List.set_cons_succ, List.set_cons_zero, List.setIfInBounds_toArray] at d4 d5
      go_region_law (first | (refine step_append_some _ rfl (.tmp 54) (.tmp 63) 93 rfl 2 i0 _ 1 8 Try.underlying93 HI.out HZ0.out HZ1.out HZ2.out rfl (by decide) [q] (some ⟨q, 0, none⟩) 0 c [] rfl HRT.out ⟨q, m, none⟩ k (c - m) ((xs.drop m).map (Value.int .i64)) (by rw [HK.out]; rfl) HL9.out HN9.out HC9.out (by unfold maxLen; omega) (by omega) ?_; intro F1 A1 c1 w5 hR5 hO5 hg5; have HB5 := Lib.hid (HBa.out.only hO5 hSq); have d4 := HB5.out.cell 4; have f4 := HB5.out.frozen 4; simp only [List.getElem?_toArray, List.getElem?_cons_succ, List.getElem?_cons_zero, List.set_cons_succ, List.set_cons_zero, List.setIfInBounds_toArray] at d4; have HR5 := Lib.hid hR5; have HO5 := Lib.hid hO5; have HG5 := Lib.hid hg5; clear hR5 hO5 hg5))
      all_goals
        have HSF1 := Lib.hid (HR5.out.ne_blk HB5.out (by decide))
        have hc8 := HR5.out.le
        unfold maxLen at hc8
        rw [Nat.zero_add] at hc8
        obtain ⟨hc8, hc9⟩ := hc8
        have HB7 := Lib.hid (HB5.out.set_ 4 (.slice A1 (0 + k) c1))
        have HV7 := Lib.hid ((HV4.out.drew.only HO5.out HVQ.out).far (p := ⟨S, 4, none⟩) (by simp; omega) (.slice A1 (0 + k) c1))
        have HR7 := Lib.hid (HR5.out.setFar (p := ⟨S, 4, none⟩) HSF1.out (.slice A1 (0 + k) c1))
        have HON7 := Lib.hid ((HON4.out.drew.trans HO5.out (fun k hk => .inl (by simp at hk; simp [hk]))).setCell (p := ⟨S, 4, none⟩) (.inl (by simp)) (.slice A1 (0 + k) c1))
        rw [Nat.zero_add] at HB7 HV7 HR7 HON7
        try rw [Nat.zero_add]
        generalize w5.setCell ⟨S, 4, none⟩ (.slice A1 k c1) = W7 at *
        simp only [List.getElem?_toArray, List.getElem?_cons_succ, List.getElem?_cons_zero, List.set_cons_succ, List.set_cons_zero, List.setIfInBounds_toArray] at HB7
        clear d4 d5 f4
        have HB := Lib.hid (HB7.out.set_ 5 (.int .i64 0))
        simp only [List.getElem?_toArray, List.getElem?_cons_succ, List.getElem?_cons_zero, List.set_cons_succ, List.set_cons_zero, List.setIfInBounds_toArray] at HB
        have HV := Lib.hid (HV7.out.far (p := ⟨S, 5, none⟩) (by simp; omega) (.int .i64 0))
        have HROW := Lib.hid (HR7.out.setFar (p := ⟨S, 5, none⟩) HSF1.out (.int .i64 0))
        have HON := Lib.hid (HON7.out.setCell (p := ⟨S, 5, none⟩) (.inl (by simp)) (.int .i64 0))
        rw [List.nil_append] at HROW
        have HDROP : Hid ((xs.drop m).drop 0 = busyL life now G) := by rw [List.drop_zero]; exact HBD
        have HLEN1 : Hid ((xs.drop m).length = k) := by have h0 := HL9.out; rw [List.length_map, Nat.mul_one] at h0; exact h0
        have HSF0 := HSF1
        have hh1 : 0 ≤ k := Nat.zero_le _
        have HW4 := Lib.hid HON4.out.size
        have HFR9 : Hid (∀ k ∈ F1, k ∈ [q] ∨ w.heap.size ≤ k) := fun k hk => by
          rcases HG5.out k hk with h | h
          · exact .inl h
          · exact .inr (Nat.le_trans HW4.out h)
        have HFF : Hid (∀ k ∈ F1, k ∈ S :: V :: [q] ∨ w.heap.size ≤ k) := fun k hk => by
          rcases HFR9.out k hk with h | h
          · exact .inl (by simp at h; simp [h])
          · exact .inr h
        have HWS := Lib.hid HON.out.size
        have d5 := HB7.out.cell 5
        have f5 := HB7.out.frozen 5
        simp only [List.getElem?_toArray, List.getElem?_cons_succ, List.getElem?_cons_zero, List.set_cons_succ, List.set_cons_zero, List.setIfInBounds_toArray] at d5
        by_cases hlife : 0 < life
        · have e3 := HB7.out.cell 3
          have e4 := HB7.out.cell 4
          have e1 := HB7.out.cell 1
          have e0 := HB7.out.cell 0
          simp only [List.getElem?_toArray, List.getElem?_cons_succ, List.getElem?_cons_zero, List.set_cons_succ, List.set_cons_zero, List.setIfInBounds_toArray] at e3 e4 e1 e0
          have hlp : 0 < life := hlife
          have d3 := HB.out.cell 3
          have d4 := HB.out.cell 4
          have d1 := HB.out.cell 1
          have d0 := HB.out.cell 0
          simp only [List.getElem?_toArray, List.getElem?_cons_succ, List.getElem?_cons_zero, List.set_cons_succ, List.set_cons_zero, List.setIfInBounds_toArray] at d3 d4 d1 d0
          have HD := Lib.hid HDROP.out
          go_wp2_with (at_builtin; refine wpList_append_row _ rfl (.tmp 79) (.tmp 81) 93 rfl 2 i0 _ 1 8 Try.underlying93 HI.out HZ0.out HZ1.out HZ2.out rfl (by decide) F1 A1 k c1 ((xs.drop m).map (Value.int .i64)) rfl (HROW.out.alloc _) ⟨W7.heap.size, 0, none⟩ 1 1 [.int .i64 now] rfl rfl (by have h0 := news_of_new (W7.setCell ⟨S, 5, none⟩ (.int .i64 0)) 2 [.int .i64 now]; have h1 : ((W7.setCell ⟨S, 5, none⟩ (.int .i64 0))).heap.size = W7.heap.size := (by simp); rw [h1] at h0; exact h0) (by simp [Value.oneCell']) (by decide) (by unfold maxLen; omega) (by omega) ?_; intro g1 cap w5 hR5 hO5 hg5; have HB5 := Lib.hid ((HB.out.alloc _).only hO5 HSF0.out); have d4 := HB5.out.cell 4; have d1 := HB5.out.cell 1; have f4 := HB5.out.frozen 4; simp only [List.getElem?_toArray, List.getElem?_cons_succ, List.getElem?_cons_zero, List.set_cons_succ, List.set_cons_zero, List.setIfInBounds_toArray] at d4 d1; have HR5 := Lib.hid hR5; have HO5 := Lib.hid hO5; have HG5 := Lib.hid hg5; clear hR5 hO5 hg5)
          clear d0 d1 d3 d4 f4
          have hSg : S ∉ [g1] := HR5.out.ne_blk HB5.out (by decide)
          have HSF := Lib.hid hSg
          have hVF : V ∉ F1 := HROW.out.ne_blk HV.out (by decide)
          have HV6 := Lib.hid (((HV.out.alloc (.cells #[.int .i64 now] 2)).only HO5.out hVF).far (p := ⟨S, 4, none⟩) (by simp; omega) (.slice (some ⟨g1, 0, none⟩) (k + 1) cap))
          have HB6 := Lib.hid (HB5.out.set_ 4 (.slice (some ⟨g1, 0, none⟩) (k + 1) cap))
          have HR6 := Lib.hid (HR5.out.setFar (p := ⟨S, 4, none⟩) hSg (.slice (some ⟨g1, 0, none⟩) (k + 1) cap))
          have HON6 := Lib.hid (((HON.out.alloc (.cells #[.int .i64 now] 2)).trans HO5.out (fun k hk => HFF.out k hk)).setCell (p := ⟨S, 4, none⟩) (.inl (by simp)) (.slice (some ⟨g1, 0, none⟩) (k + 1) cap))
          generalize w5.setCell ⟨S, 4, none⟩ (.slice (some ⟨g1, 0, none⟩) (k + 1) cap) = W6 at *
          simp only [List.getElem?_toArray, List.getElem?_cons_succ, List.getElem?_cons_zero, List.set_cons_succ, List.set_cons_zero, List.setIfInBounds_toArray] at HB6
          have d0 := HB6.out.cell 0
          have d1 := HB6.out.cell 1
          have f1 := HB6.out.frozen 1
          simp only [List.getElem?_toArray, List.getElem?_cons_succ, List.getElem?_cons_zero, List.set_cons_succ, List.set_cons_zero, List.setIfInBounds_toArray] at d0 d1
          have hw9 : IntKind.i64.wrap (nx + 1) = nx + 1 := (by rw [IntKind.wrap_i64]; omega)
          have hz9 : ¬ space = 0 := (by omega)
          have ht9 : (nx + 1).tmod space = (nx + 1) % space := Int.tmod_eq_emod_of_nonneg (by omega)
          go_region_law (fail)
          all_goals
            go_wp2_with fail
            go_ret2
            refine ⟨rfl, [g1], ⟨some ⟨g1, 0, none⟩, k + 1, cap, 0, ((xs.drop m) ++ [now]), ⟨?_, HV6.out.far (by simp; omega) _, ?_, ?_, ?_, ?_⟩, ?_, ?_, ?_⟩, ?_, ?_⟩
            · rw [List.length_append, lastOf_snoc, HNE.out]
              exact HB6.out.drew.set_ 1 (.int .i64 ((nx + 1) % space))
            · exact (show Row W6 _ _ _ _ _ _ (((xs.drop m) ++ [now]).map (Value.int .i64)) by rw [List.map_append]; exact HR6.out).drew.setFar (by simpa using HSF.out) _
            · rw [List.length_append, HLEN1.out]; rfl
            · omega
            · omega
            · rw [lastOf_snoc, busyL_snoc, List.drop_append_of_le_length (by rw [HLEN1.out]; exact hh1), HDROP.out, if_pos hlp]
            · omega
            · exact HG.out.snoc hn1 hn2 (by have := HBL.out; omega)
            · exact (HON6.out.drew).setCell (.inl (by simp)) _
            · intro k hk
              have hkg : k = g1 := by simpa using hk
              subst hkg
              rcases HG5.out with h9 | h9
              · exact HFR9.out k h9
              · right
                have := HWS.out
                simp at h9 this
                omega
        · have e3 := HB7.out.cell 3
          have e4 := HB7.out.cell 4
          have e1 := HB7.out.cell 1
          have e0 := HB7.out.cell 0
          simp only [List.getElem?_toArray, List.getElem?_cons_succ, List.getElem?_cons_zero, List.set_cons_succ, List.set_cons_zero, List.setIfInBounds_toArray] at e3 e4 e1 e0
          have hl0 : ¬ 0 < life := hlife
          have d3 := HB.out.cell 3
          have d1 := HB.out.cell 1
          have d0 := HB.out.cell 0
          simp only [List.getElem?_toArray, List.getElem?_cons_succ, List.getElem?_cons_zero, List.set_cons_succ, List.set_cons_zero, List.setIfInBounds_toArray] at d3 d1 d0
          go_wp2_with fail
          clear d0 d1 d3
          have HSF := HSF0
          have HB6 := HB
          have HV6 := HV
          generalize (W7.setCell ⟨S, 5, none⟩ (.int .i64 0)) = W6 at *
          have d0 := HB6.out.cell 0
          have d1 := HB6.out.cell 1
          have f1 := HB6.out.frozen 1
          simp only [List.getElem?_toArray, List.getElem?_cons_succ, List.getElem?_cons_zero, List.set_cons_succ, List.set_cons_zero, List.setIfInBounds_toArray] at d0 d1
          have hw9 : IntKind.i64.wrap (nx + 1) = nx + 1 := (by rw [IntKind.wrap_i64]; omega)
          have hz9 : ¬ space = 0 := (by omega)
          have ht9 : (nx + 1).tmod space = (nx + 1) % space := Int.tmod_eq_emod_of_nonneg (by omega)
          go_region_law (fail)
          all_goals
            go_wp2_with fail
            go_ret2
            refine ⟨rfl, F1, ⟨A1, k, c1, 0, (xs.drop m), ⟨?_, HV6.out.far (by simp; omega) _, ?_, ?_, ?_, ?_⟩, ?_, ?_, ?_⟩, ?_, ?_⟩
            · rw [List.length_append, lastOf_snoc, HNE.out]
              exact HB6.out.drew.set_ 1 (.int .i64 ((nx + 1) % space))
            · exact (HROW.out.drew).setFar (by simpa using HSF.out) _
            · exact HLEN1.out
            · omega
            · omega
            · rw [lastOf_snoc, busyL_snoc, HDROP.out, if_neg (by omega), List.append_nil]
            · omega
            · exact HG.out.snoc hn1 hn2 (by have := HBL.out; omega)
            · exact (HON.out.drew).setCell (.inl (by simp)) _
            · exact fun k hk => HFR9.out k hk
  · have HB := HB4
    have HV := HV4
    have HROW := HRW4
    have HON := HON4
    have HDROP := HBD
    have HLEN1 := HLEN
    have HSF0 := HSFR
    have hh1 : m ≤ n := hmn
    have HFR9 : Hid (∀ k ∈ F, k ∈ F ∨ w.heap.size ≤ k) := fun k hk => .inl hk
    have HFF : Hid (∀ k ∈ F, k ∈ S :: V :: F ∨ w.heap.size ≤ k) := fun k hk => .inl (by simp [hk])
    have HWS := Lib.hid HON4.out.size
    have hcd : decide ((n : Int) / 2 < (m : Int)) = false := by simp; omega
    by_cases hlife : 0 < life
    · have hlp : 0 < life := hlife
      have d3 := HB.out.cell 3
      have d4 := HB.out.cell 4
      have d1 := HB.out.cell 1
      have d0 := HB.out.cell 0
      simp only [List.getElem?_toArray, List.getElem?_cons_succ, List.getElem?_cons_zero, List.set_cons_succ, List.set_cons_zero, List.setIfInBounds_toArray] at d3 d4 d1 d0
      have HD := Lib.hid HDROP.out
      go_wp2_with (at_builtin; refine wpList_append_row _ rfl (.tmp 79) (.tmp 81) 93 rfl 2 i0 _ 1 8 Try.underlying93 HI.out HZ0.out HZ1.out HZ2.out rfl (by decide) F A n c (xs.map (Value.int .i64)) rfl (HROW.out.alloc _) ⟨W4.heap.size, 0, none⟩ 1 1 [.int .i64 now] rfl rfl (news_of_new _ _ _) (by simp [Value.oneCell']) (by decide) (by unfold maxLen; omega) (by omega) ?_; intro g1 cap w5 hR5 hO5 hg5; have HB5 := Lib.hid ((HB.out.alloc _).only hO5 HSF0.out); have d4 := HB5.out.cell 4; have d1 := HB5.out.cell 1; have f4 := HB5.out.frozen 4; simp only [List.getElem?_toArray, List.getElem?_cons_succ, List.getElem?_cons_zero, List.set_cons_succ, List.set_cons_zero, List.setIfInBounds_toArray] at d4 d1; have HR5 := Lib.hid hR5; have HO5 := Lib.hid hO5; have HG5 := Lib.hid hg5; clear hR5 hO5 hg5)
      clear d0 d1 d3 d4 f4
      have hSg : S ∉ [g1] := HR5.out.ne_blk HB5.out (by decide)
      have HSF := Lib.hid hSg
      have hVF : V ∉ F := HROW.out.ne_blk HV.out (by decide)
      have HV6 := Lib.hid (((HV.out.alloc (.cells #[.int .i64 now] 2)).only HO5.out hVF).far (p := ⟨S, 4, none⟩) (by simp; omega) (.slice (some ⟨g1, 0, none⟩) (n + 1) cap))
      have HB6 := Lib.hid (HB5.out.set_ 4 (.slice (some ⟨g1, 0, none⟩) (n + 1) cap))
      have HR6 := Lib.hid (HR5.out.setFar (p := ⟨S, 4, none⟩) hSg (.slice (some ⟨g1, 0, none⟩) (n + 1) cap))
      have HON6 := Lib.hid (((HON.out.alloc (.cells #[.int .i64 now] 2)).trans HO5.out (fun k hk => HFF.out k hk)).setCell (p := ⟨S, 4, none⟩) (.inl (by simp)) (.slice (some ⟨g1, 0, none⟩) (n + 1) cap))
      generalize w5.setCell ⟨S, 4, none⟩ (.slice (some ⟨g1, 0, none⟩) (n + 1) cap) = W6 at *
      simp only [List.getElem?_toArray, List.getElem?_cons_succ, List.getElem?_cons_zero, List.set_cons_succ, List.set_cons_zero, List.setIfInBounds_toArray] at HB6
      have d0 := HB6.out.cell 0
      have d1 := HB6.out.cell 1
      have f1 := HB6.out.frozen 1
      simp only [List.getElem?_toArray, List.getElem?_cons_succ, List.getElem?_cons_zero, List.set_cons_succ, List.set_cons_zero, List.setIfInBounds_toArray] at d0 d1
      have hw9 : IntKind.i64.wrap (nx + 1) = nx + 1 := (by rw [IntKind.wrap_i64]; omega)
      have hz9 : ¬ space = 0 := (by omega)
      have ht9 : (nx + 1).tmod space = (nx + 1) % space := Int.tmod_eq_emod_of_nonneg (by omega)
      go_region_law (fail)
      all_goals
        go_wp2_with fail
        go_ret2
        refine ⟨rfl, [g1], ⟨some ⟨g1, 0, none⟩, n + 1, cap, m, (xs ++ [now]), ⟨?_, HV6.out.far (by simp; omega) _, ?_, ?_, ?_, ?_⟩, ?_, ?_, ?_⟩, ?_, ?_⟩
        · rw [List.length_append, lastOf_snoc, HNE.out]
          exact HB6.out.drew.set_ 1 (.int .i64 ((nx + 1) % space))
        · exact (show Row W6 _ _ _ _ _ _ ((xs ++ [now]).map (Value.int .i64)) by rw [List.map_append]; exact HR6.out).drew.setFar (by simpa using HSF.out) _
        · rw [List.length_append, HLEN1.out]; rfl
        · omega
        · omega
        · rw [lastOf_snoc, busyL_snoc, List.drop_append_of_le_length (by rw [HLEN1.out]; exact hh1), HDROP.out, if_pos hlp]
        · omega
        · exact HG.out.snoc hn1 hn2 (by have := HBL.out; omega)
        · exact (HON6.out.drew).setCell (.inl (by simp)) _
        · intro k hk
          have hkg : k = g1 := by simpa using hk
          subst hkg
          rcases HG5.out with h9 | h9
          · exact HFR9.out k h9
          · right
            have := HWS.out
            simp at h9 this
            omega
    · have hl0 : ¬ 0 < life := hlife
      have d3 := HB.out.cell 3
      have d1 := HB.out.cell 1
      have d0 := HB.out.cell 0
      simp only [List.getElem?_toArray, List.getElem?_cons_succ, List.getElem?_cons_zero, List.set_cons_succ, List.set_cons_zero, List.setIfInBounds_toArray] at d3 d1 d0
      go_wp2_with fail
      clear d0 d1 d3
      have HSF := HSF0
      have HB6 := HB
      have HV6 := HV
      generalize W4 = W6 at *
      have d0 := HB6.out.cell 0
      have d1 := HB6.out.cell 1
      have f1 := HB6.out.frozen 1
      simp only [List.getElem?_toArray, List.getElem?_cons_succ, List.getElem?_cons_zero, List.set_cons_succ, List.set_cons_zero, List.setIfInBounds_toArray] at d0 d1
      have hw9 : IntKind.i64.wrap (nx + 1) = nx + 1 := (by rw [IntKind.wrap_i64]; omega)
      have hz9 : ¬ space = 0 := (by omega)
      have ht9 : (nx + 1).tmod space = (nx + 1) % space := Int.tmod_eq_emod_of_nonneg (by omega)
      go_region_law (fail)
      all_goals
        go_wp2_with fail
        go_ret2
        refine ⟨rfl, F, ⟨A, n, c, m, xs, ⟨?_, HV6.out.far (by simp; omega) _, ?_, ?_, ?_, ?_⟩, ?_, ?_, ?_⟩, ?_, ?_⟩
        · rw [List.length_append, lastOf_snoc, HNE.out]
          exact HB6.out.drew.set_ 1 (.int .i64 ((nx + 1) % space))
        · exact (HROW.out.drew).setFar (by simpa using HSF.out) _
        · exact HLEN1.out
        · omega
        · omega
        · rw [lastOf_snoc, busyL_snoc, HDROP.out, if_neg (by omega), List.append_nil]
        · omega
        · exact HG.out.snoc hn1 hn2 (by have := HBL.out; omega)
        · exact (HON.out.drew).setCell (.inl (by simp)) _
        · exact fun k hk => HFR9.out k hk
end
end Go.Proofs.Ytjlnkfbhbiinoaa
