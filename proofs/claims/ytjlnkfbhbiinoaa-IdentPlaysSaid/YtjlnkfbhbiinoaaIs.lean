/-
  The document's own source (mosaicref12): Next and Busy.
-/
import Derived.Test.YtjlnkfbhbiinoaaIr
namespace Go.Proofs.Ytjlnkfbhbiinoaa
open Go.RowKit
set_option linter.unusedVariables false
set_option linter.unusedSimpArgs false
attribute [local go_sem ↓] Go.wp_at_zero Go.wp_at_succ

section
variable {w : World} {R : Nat} {H : List Nat} {space life now : Int} {G : List Int}
set_option maxRecDepth 100000 in
set_option maxHeartbeats 1600000 in
theorem refNext_no (h : RS w R H space life G) (hbig : G.length ≤ 4611686018427387904) (hm : idMay G now = false) :
    Calls Try.prog 49 #[.pointer (some ⟨R, 0, none⟩), .int .i64 now] w (RSPost w R H space life G (.tuple #[.int .u32 0, .int .i64 1])) := by
  have HS := Lib.hid h
  have hc : Hid (∀ W, W = w → Calls Try.prog 58 #[.pointer (some ⟨R, 0, none⟩), .int .i64 now] W fun e w' => e = .returned (.bool false) ∧ W = w') := by
    rintro W rfl
    have := mayRef_any (now := now) h hbig
    rw [hm] at this
    exact this
  clear h hm
  go_enter Try.func49, Try.ntmps49
  go_wp2_with fail
  refine (hc.out _ rfl).mono ?_
  rintro e w' ⟨rfl, rfl⟩
  go_wp2_with fail
  go_ret2
  exact ⟨rfl, H, HS.out, Only.refl _ _, fun k hk => .inl hk⟩

set_option maxRecDepth 100000 in
set_option maxHeartbeats 1600000 in
theorem refNext_full (h : RS w R H space life G) (hbig : G.length ≤ 4611686018427387904) (hm : idMay G now = true) (hf : idFull space life G now = true) :
    Calls Try.prog 49 #[.pointer (some ⟨R, 0, none⟩), .int .i64 now] w (RSPost w R H space life G (.tuple #[.int .u32 0, .int .i64 120])) := by
  have HS := Lib.hid h
  have hc : Hid (∀ W, W = w → Calls Try.prog 58 #[.pointer (some ⟨R, 0, none⟩), .int .i64 now] W fun e w' => e = .returned (.bool true) ∧ W = w') := by
    rintro W rfl
    have := mayRef_any (now := now) h hbig
    rw [hm] at this
    exact this
  obtain ⟨⟨A, c, hb, hr⟩, hg⟩ := h
  have d0 : w.cell? ⟨R, 0, none⟩ = some (.int .i64 space) := hb.cell 0
  have d1 : w.cell? ⟨R, 1, none⟩ = some (.int .i64 life) := hb.cell 1
  have d2 : w.cell? ⟨R, 2, none⟩ = some (.slice A G.length c) := hb.cell 2
  obtain ⟨s, rfl⟩ : ∃ s : Nat, (s : Int) = space := ⟨space.toNat, by have := hg.sp1; omega⟩
  have hs1 : 1 ≤ s := by have := hg.sp1; omega
  have hs2 : (s : Int) ≤ 4294967296 := hg.sp2
  have hf2 : s ≤ (busyL life now G).length := by
    unfold idFull at hf
    simp only [decide_eq_true_eq] at hf
    omega
  obtain ⟨hn, hbz⟩ := (full_iff hg.asc hs1).1 hf2
  obtain ⟨q, rfl, -, hcell⟩ := hr.cellAt (j := G.length - s) (u := .int .i64 (G[G.length - s]'(by omega))) (by simp [show G.length - s < G.length by omega])
  have hbd := hg.bd _ (List.getElem_mem (show G.length - s < G.length by omega))
  have hl := hr.le
  have hnow : now ≤ 1099511627776 := by unfold idMay at hm; simp at hm; omega
  have hnow0 : 0 ≤ now := by have := hg.last; unfold idMay at hm; simp at hm; omega
  have HM := Lib.hid hm
  clear hr hb hg hf hm hf2
  generalize G[G.length - s]'(by omega) = y at *
  generalize hnn : G.length = n at *
  clear hnn
  have e1 : (n : Int) - (s : Int) = ((n - s : Nat) : Int) := by omega
  have e2 : IntKind.i64.wrap ((n : Int) - (s : Int)) = (n : Int) - (s : Int) := by rw [IntKind.wrap_i64]; omega
  have e3 : decide ((s : Int) ≤ (n : Int)) = true := by simp; omega
  have e4 : (0 : Int) ≤ (n : Int) - (s : Int) := by omega
  have e5 : (n : Int) - (s : Int) < (n : Int) := by omega
  have E1 := Lib.hid e1; clear e1
  have E2 := Lib.hid e2; clear e2
  have hlt : ((n : Int) - (s : Int)).toNat = n - s := by omega
  have hsub : IntKind.i64.wrap (now - y) = now - y := by rw [IntKind.wrap_i64]; omega
  have HSUB := Lib.hid hsub; clear hsub
  have HLT := Lib.hid hlt; clear hlt
  go_enter Try.func49, Try.ntmps49
  go_wp2_with fail
  refine (hc.out _ rfl).mono ?_
  rintro e w' ⟨rfl, rfl⟩
  go_wp2_with fail
  have E2 := E2.out
  have HLT := HLT.out
  have HSUB := HSUB.out
  go_quiet (fail)
  clear E2 HLT HSUB
  go_wp2_with fail
  go_ret2
  exact ⟨rfl, H, HS.out.only ((Only.refl [] w).drewN nq) (by simp), (Only.refl _ w).drewN nq, fun k hk => .inl hk⟩

set_option maxRecDepth 100000 in
set_option maxHeartbeats 1600000 in
theorem refNext_ok (h : RS w R H space life G) (hbig : G.length ≤ 8796093022208) (hm : idMay G now = true) (hf : idFull space life G now = false) :
    Calls Try.prog 49 #[.pointer (some ⟨R, 0, none⟩), .int .i64 now] w (RSPost w R H space life (G ++ [now]) (.tuple #[.int .u32 ((G.length : Int) % space), .int .i64 0])) := by
  obtain ⟨i0, hi, hz0, hz1, hz2⟩ := info_parts Try.infoI64
  have HI := Lib.hid hi; clear hi
  have HZ0 := Lib.hid hz0; clear hz0
  have HZ1 := Lib.hid hz1; clear hz1
  have HZ2 := Lib.hid hz2; clear hz2
  have HS := Lib.hid h
  have hc : Hid (∀ W, W = w → Calls Try.prog 58 #[.pointer (some ⟨R, 0, none⟩), .int .i64 now] W fun e w' => e = .returned (.bool true) ∧ W = w') := by
    rintro W rfl
    have := mayRef_any (now := now) h (by omega)
    rw [hm] at this
    exact this
  obtain ⟨⟨A, c, hb, hr⟩, hg⟩ := h
  have d0 : w.cell? ⟨R, 0, none⟩ = some (.int .i64 space) := hb.cell 0
  have d1 : w.cell? ⟨R, 1, none⟩ = some (.int .i64 life) := hb.cell 1
  have d2 : w.cell? ⟨R, 2, none⟩ = some (.slice A G.length c) := hb.cell 2
  obtain ⟨s, rfl⟩ : ∃ s : Nat, (s : Int) = space := ⟨space.toNat, by have := hg.sp1; omega⟩
  have hs1 : 1 ≤ s := by have := hg.sp1; omega
  have hs2 : (s : Int) ≤ 4294967296 := hg.sp2
  have hf2 : ((busyL life now G).length : Int) < s := by
    unfold idFull at hf
    simp only [decide_eq_false_iff_not] at hf
    omega
  have hl := hr.le
  have hnow : lastOf G ≤ now ∧ now ≤ 1099511627776 := by unfold idMay at hm; simp at hm; omega
  have hgd := hg.snoc hnow.1 hnow.2 hf2
  have HGD := Lib.hid hgd; clear hgd
  have hnow2 : now ≤ 1099511627776 := hnow.2
  have hnow0 : 0 ≤ now := by have := hg.last; omega
  have HM := Lib.hid hm
  have hRH : R ∉ H := hr.ne_blk hb (by decide)
  have HRH := Lib.hid hRH; clear hRH
  have HB := Lib.hid hb
  have HR := Lib.hid hr
  have hfn := full_iff (life := life) (now := now) hg.asc hs1
  have hmod : 0 ≤ (G.length : Int) % (s : Int) ∧ (G.length : Int) % (s : Int) < 4294967296 := by
    have h1 := Int.emod_nonneg (G.length : Int) (show (s : Int) ≠ 0 by omega)
    have h2 := Int.emod_lt_of_pos (G.length : Int) (show (0 : Int) < (s : Int) by omega)
    omega
  obtain ⟨hm1, hm2⟩ := hmod
  by_cases hge : s ≤ G.length
  · have hnb : ¬ now - G[G.length - s]'(by omega) < life := fun hb => by have := hfn.2 ⟨hge, hb⟩; omega
    obtain ⟨q, rfl, -, hcell⟩ := hr.cellAt (j := G.length - s) (u := .int .i64 (G[G.length - s]'(by omega))) (by simp [show G.length - s < G.length by omega])
    have hbd := hg.bd _ (List.getElem_mem (show G.length - s < G.length by omega))
    clear hfn hr hb hg hf hm hf2 hnow
    generalize G[G.length - s]'(by omega) = y at *
    have HLEN := Lib.hid (show G.length = G.length from rfl)
    generalize hnn : G.length = n at *
    clear HLEN
    have HN := Lib.hid hnn; clear hnn
    have e2 : IntKind.i64.wrap ((n : Int) - (s : Int)) = (n : Int) - (s : Int) := by rw [IntKind.wrap_i64]; omega
    have e3 : decide ((s : Int) ≤ (n : Int)) = true := by simp; omega
    have e4 : (0 : Int) ≤ (n : Int) - (s : Int) := by omega
    have e5 : (n : Int) - (s : Int) < (n : Int) := by omega
    have E2 := Lib.hid e2; clear e2
    have hlt : ((n : Int) - (s : Int)).toNat = n - s := by omega
    have hsub : IntKind.i64.wrap (now - y) = now - y := by rw [IntKind.wrap_i64]; omega
    have HSUB := Lib.hid hsub; clear hsub
    have HLT := Lib.hid hlt; clear hlt
    go_enter Try.func49, Try.ntmps49
    go_wp2_with fail
    refine (hc.out _ rfl).mono ?_
    rintro e w' ⟨rfl, rfl⟩
    go_wp2_with fail
    have E2 := E2.out
    have HLT := HLT.out
    have HSUB := HSUB.out
    have hnd : decide (now - y < life) = false := by simp; omega
    clear hnb
    go_quiet (fail)
    clear E2 HLT HSUB hcell e3 e4 e5 hbd hnd hge
    clear d1
    have hc1 : n + 1 ≤ maxLen := by unfold maxLen; omega
    have hc2 : (n + 1) * 8 ≤ 140737488355328 := by omega
    have HC1 := Lib.hid hc1; clear hc1
    have HC2 := Lib.hid hc2; clear hc2
    clear hbig
    go_wp2_with (at_builtin; refine wpList_append_row _ rfl (.tmp 49) (.tmp 51) 93 rfl 2 i0 _ 1 8 Try.underlying93 HI.out HZ0.out HZ1.out HZ2.out rfl (by decide) H (some ⟨q, 0, none⟩) n c (G.map (Value.int .i64)) rfl ((HR.out.drewN nq).alloc _) ⟨w.heap.size, 0, none⟩ 1 1 [.int .i64 now] rfl rfl (news_of_new _ _ _) (by simp [Value.oneCell']) (by decide) HC1.out HC2.out ?_; intro g1 cap w5 hR5 hO5 hg5; have HB5 := Lib.hid (((HB.out.drewN nq).alloc _).only hO5 HRH.out); have d2 := HB5.out.cell 2; have d0 := HB5.out.cell 0; have f2 := HB5.out.frozen 2; simp only [List.getElem?_toArray, List.getElem?_cons_succ, List.getElem?_cons_zero] at d2 d0; have HR5 := Lib.hid hR5; have HO5 := Lib.hid hO5; have HG5 := Lib.hid hg5; clear hR5 hO5 hg5)
    go_ret2
    have hRg : R ∉ [g1] := HR5.out.ne_blk HB5.out (by decide)
    refine ⟨rfl, [g1], ⟨⟨some ⟨g1, 0, none⟩, cap, ?_, ?_⟩, HGD.out⟩, ?_, ?_⟩
    · rw [List.length_append, HN.out]
      exact HB5.out.set_ 2 (.slice (some ⟨g1, 0, none⟩) (n + 1) cap)
    · rw [List.length_append, HN.out, List.map_append]
      exact HR5.out.setFar (p := ⟨R, 2, none⟩) hRg _
    · exact ((((Only.refl (R :: H) w).drewN nq).alloc (.cells #[.int .i64 now] 2)).trans HO5.out (fun k hk => .inl (by simp [hk]))).setCell (.inl (by simp)) _
    · intro k hk
      have : k = g1 := by simpa using hk
      subst this
      rcases HG5.out with h | h
      · exact .inl h
      · right; simp at h; omega
  · clear hfn hr hb hg hf hm hf2 hnow
    generalize hnn : G.length = n at *
    have HN := Lib.hid hnn; clear hnn
    have e3 : decide ((s : Int) ≤ (n : Int)) = false := by simp; omega
    go_enter Try.func49, Try.ntmps49
    go_wp2_with fail
    refine (hc.out _ rfl).mono ?_
    rintro e w' ⟨rfl, rfl⟩
    go_wp2_with fail
    go_quiet (fail)
    clear d1
    go_wp2_with (at_builtin; refine wpList_append_row _ rfl (.tmp 49) (.tmp 51) 93 rfl 2 i0 _ 1 8 Try.underlying93 HI.out HZ0.out HZ1.out HZ2.out rfl (by decide) H A n c (G.map (Value.int .i64)) rfl ((HR.out.drewN nq).alloc _) ⟨w.heap.size, 0, none⟩ 1 1 [.int .i64 now] rfl rfl (news_of_new _ _ _) (by simp [Value.oneCell']) (by decide) (by unfold maxLen; omega) (by omega) ?_; intro g1 cap w5 hR5 hO5 hg5; have HB5 := Lib.hid (((HB.out.drewN nq).alloc _).only hO5 HRH.out); have d2 := HB5.out.cell 2; have d0 := HB5.out.cell 0; have f2 := HB5.out.frozen 2; simp only [List.getElem?_toArray, List.getElem?_cons_succ, List.getElem?_cons_zero] at d2 d0; have HR5 := Lib.hid hR5; have HO5 := Lib.hid hO5; have HG5 := Lib.hid hg5; clear hR5 hO5 hg5)
    go_ret2
    have hRg : R ∉ [g1] := HR5.out.ne_blk HB5.out (by decide)
    refine ⟨rfl, [g1], ⟨⟨some ⟨g1, 0, none⟩, cap, ?_, ?_⟩, HGD.out⟩, ?_, ?_⟩
    · rw [List.length_append, HN.out]
      exact HB5.out.set_ 2 (.slice (some ⟨g1, 0, none⟩) (n + 1) cap)
    · rw [List.length_append, HN.out, List.map_append]
      exact HR5.out.setFar (p := ⟨R, 2, none⟩) hRg _
    · exact ((((Only.refl (R :: H) w).drewN nq).alloc (.cells #[.int .i64 now] 2)).trans HO5.out (fun k hk => .inl (by simp [hk]))).setCell (.inl (by simp)) _
    · intro k hk
      have : k = g1 := by simpa using hk
      subst this
      rcases HG5.out with h | h
      · exact .inl h
      · right; simp at h; omega
theorem refNext_any (h : RS w R H space life G) (hbig : G.length ≤ 8796093022208) :
    Calls Try.prog 49 #[.pointer (some ⟨R, 0, none⟩), .int .i64 now] w (RSPost w R H space life (idGot space life G now) (.tuple #[.int .u32 (idNum space life G now), .int .i64 (idErr space life G now)])) := by
  unfold idGot idNum idErr
  cases hm : idMay G now with
  | false => simp only [Bool.false_eq_true, if_false]; exact refNext_no h (by omega) hm
  | true =>
    cases hf : idFull space life G now with
    | true => simp only [if_true]; exact refNext_full h (by omega) hm hf
    | false => simp only [if_true, Bool.false_eq_true, if_false]; exact refNext_ok h hbig hm hf
end
end Go.Proofs.Ytjlnkfbhbiinoaa
