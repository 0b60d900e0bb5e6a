/-
  The document's own source (mosaicref12): Busy.
-/
import Derived.Test.YtjlnkfbhbiinoaaIs
namespace Go.Proofs.Ytjlnkfbhbiinoaa
open Go.RowKit
set_option linter.unusedVariables false
set_option linter.unusedSimpArgs false
attribute [local go_sem ↓] Go.wp_at_zero Go.wp_at_succ

section
variable {w : World} {R : Nat} {H : List Nat} {space life now : Int} {G : List Int}
set_option maxRecDepth 100000 in
set_option maxHeartbeats 1600000 in
theorem refBusy_no (h : RS w R H space life G) (hbig : G.length ≤ 8796093022208) (hm : idMay G now = false) :
    Calls Try.prog 51 #[.pointer (some ⟨R, 0, none⟩), .int .i64 now] w (RSPost w R H space life G (.tuple #[.int .i64 0, .int .i64 1])) := by
  have HS := Lib.hid h
  have hc : Hid (∀ W, W = w → Calls Try.prog 58 #[.pointer (some ⟨R, 0, none⟩), .int .i64 now] W fun e w' => e = .returned (.bool false) ∧ W = w') := by
    rintro W rfl
    have := mayRef_any (now := now) h (by omega)
    rw [hm] at this
    exact this
  clear h hm
  go_enter Try.func51, Try.ntmps51
  go_wp2_with fail
  refine (hc.out _ rfl).mono ?_
  rintro e w' ⟨rfl, rfl⟩
  go_wp2_with fail
  go_ret2
  exact ⟨rfl, H, HS.out, Only.refl _ _, fun k hk => .inl hk⟩

def BusyRel (w : World) (R : Nat) (H : List Nat) (life now space : Int) (G : List Int) (s : Nat) (v7 v9 : Value) (wr : World) : Prop :=
  ∃ k : Nat, k ≤ G.length ∧ k ≤ s ∧ v9 = .int .i64 ((k : Int) + 1) ∧ v7 = .int .i64 ((busyL life now (G.drop (G.length - k))).length : Int) ∧ Hid (RS wr R H space life G) ∧ Hid (Only [] w wr)

set_option maxRecDepth 100000 in
set_option maxHeartbeats 3200000 in
theorem refBusy_ok (h : RS w R H space life G) (hbig : G.length ≤ 8796093022208) (hm : idMay G now = true) :
    Calls Try.prog 51 #[.pointer (some ⟨R, 0, none⟩), .int .i64 now] w (RSPost w R H space life G (.tuple #[.int .i64 ((busyL life now G).length : Int), .int .i64 0])) := by
  have HS := Lib.hid h
  have hc : Hid (∀ W, W = w → Calls Try.prog 58 #[.pointer (some ⟨R, 0, none⟩), .int .i64 now] W fun e w' => e = .returned (.bool true) ∧ W = w') := by
    rintro W rfl
    have := mayRef_any (now := now) h (by omega)
    rw [hm] at this
    exact this
  obtain ⟨⟨A, c, hb, hr⟩, hg⟩ := h
  have d2 : w.cell? ⟨R, 2, none⟩ = some (.slice A G.length c) := hb.cell 2
  obtain ⟨s, rfl⟩ : ∃ s : Nat, (s : Int) = space := ⟨space.toNat, by have := hg.sp1; omega⟩
  have hs1 : 1 ≤ s := by have := hg.sp1; omega
  have hs2 : (s : Int) ≤ 4294967296 := hg.sp2
  have hnow : lastOf G ≤ now ∧ now ≤ 1099511627776 := by unfold idMay at hm; simp at hm; omega
  have hcnt : (busyL life now G).length ≤ s := by
    have h1 := hg.cnt
    have h2 := busyL_le (life := life) G hnow.1
    omega
  have HEND := Lib.hid (busyL_last hg.asc hcnt)
  have HG := Lib.hid hg
  have hnow2 : now ≤ 1099511627776 := hnow.2
  have hnow0 : 0 ≤ now := by have := hg.last; omega
  have HBD := Lib.hid hg.bd
  clear hm hnow hg hb hr hcnt
  go_enter Try.func51, Try.ntmps51
  go_wp2_with fail
  refine (hc.out _ rfl).mono ?_
  rintro e w' ⟨rfl, rfl⟩
  go_wp2_with fail
  clear d2 hc
  go_loopw [7, 9] (fun v7 v9 wr => BusyRel w R H life now s G s v7 v9 wr) (fun _ i _ => G.length + 1 - (intOf i).toNat)
  case atStart => exact ⟨0, Nat.zero_le _, Nat.zero_le _, rfl, by rw [Nat.sub_zero, List.drop_of_length_le (Nat.le_refl _)]; rfl, HS, Lib.hid (Only.refl _ _)⟩
  case round =>
    obtain ⟨k, hk, hks, rfl, rfl, HR, HO⟩ := hrel
    obtain ⟨⟨A1, c1, hb, hr⟩, _⟩ := HR.out
    have d0 : wr.cell? ⟨R, 0, none⟩ = some (.int .i64 (s : Int)) := hb.cell 0
    have d1 : wr.cell? ⟨R, 1, none⟩ = some (.int .i64 life) := hb.cell 1
    have d2 : wr.cell? ⟨R, 2, none⟩ = some (.slice A1 G.length c1) := hb.cell 2
    have hcl := hr.le
    by_cases hlt : k < G.length
    · by_cases hls : k < s
      · obtain ⟨q, rfl, -, hcell⟩ := hr.cellAt (j := G.length - (k + 1)) (u := .int .i64 (G[G.length - (k + 1)]'(by omega))) (by simp [show G.length - (k + 1) < G.length by omega])
        have hbd := HBD.out _ (List.getElem_mem (show G.length - (k + 1) < G.length by omega))
        have hback := busyL_back life now G (G.length - (k + 1)) (by omega)
        rw [show G.length - (k + 1) + 1 = G.length - k by omega] at hback
        have HBK := Lib.hid hback; clear hback
        have hbl : (busyL life now (G.drop (G.length - k))).length ≤ k := by
          have := busyL_length_le life now (G.drop (G.length - k))
          rw [List.length_drop] at this
          omega
        clear hr hb
        generalize G[G.length - (k + 1)]'(by omega) = y at *
        generalize hbb : (busyL life now (G.drop (G.length - k))).length = bb at *
        generalize hbb2 : (busyL life now (G.drop (G.length - (k + 1)))).length = bb2 at *
        have HB2 := Lib.hid hbb2; clear hbb2 hbb
        generalize hn : G.length = n at *
        have HN := Lib.hid hn; clear hn
        have e1 : decide ((k : Int) + 1 ≤ (n : Int)) = true := by simp; omega
        have e2 : decide ((k : Int) + 1 ≤ (s : Int)) = true := by simp; omega
        have e4 : (0 : Int) ≤ (n : Int) - ((k : Int) + 1) := by omega
        have e5 : (n : Int) - ((k : Int) + 1) < (n : Int) := by omega
        have e6 : IntKind.i64.wrap ((n : Int) - ((k : Int) + 1)) = (n : Int) - ((k : Int) + 1) := by rw [IntKind.wrap_i64]; omega
        have e7 : ((n : Int) - ((k : Int) + 1)).toNat = n - (k + 1) := by omega
        have e8 : IntKind.i64.wrap (now - y) = now - y := by rw [IntKind.wrap_i64]; omega
        have E4 := Lib.hid e4; clear e4
        have E5 := Lib.hid e5; clear e5
        have E6 := Lib.hid e6; clear e6
        have E7 := Lib.hid e7; clear e7
        have E8 := Lib.hid e8; clear e8
        go_wp2_with fail
        have E4 := E4.out
        have E5 := E5.out
        have E6 := E6.out
        have E7 := E7.out
        have E8 := E8.out
        by_cases hbz : now - y < life
        · have hd : decide (now - y < life) = true := by simp; omega
          have HBZ := Lib.hid hbz; clear hbz
          go_quiet (fail)
          clear E4 E5 E6 E7 E8 hd e1 e2
          go_wp2_with fail
          go_roundw
          case rel => exact ⟨k + 1, by rw [HN.out]; omega, by omega, by go_num, by rw [HN.out, HB2.out, HBK.out, if_pos HBZ.out], Lib.hid (HR.out.only ((Only.refl [] wr).drewN nq) (by simp)), Lib.hid (HO.out.drewN nq)⟩
          case measure => simp [intOf]; omega
        · have hd : decide (now - y < life) = false := by simp; omega
          have HBZ := Lib.hid hbz; clear hbz
          go_quiet (fail)
          clear E4 E5 E6 E7 E8 hd e1 e2
          go_wp2_with fail
          go_roundw
          case rel => exact ⟨k + 1, by rw [HN.out]; omega, by omega, by go_num, by rw [HN.out, HB2.out, HBK.out, if_neg HBZ.out, Int.add_zero], Lib.hid (HR.out.only ((Only.refl [] wr).drewN nq) (by simp)), Lib.hid (HO.out.drewN nq)⟩
          case measure => simp [intOf]; omega
      · obtain rfl : k = s := by omega
        rw [HEND.out]
        have e1 : decide ((k : Int) + 1 ≤ (G.length : Int)) = true := by simp; omega
        have e2 : decide ((k : Int) + 1 ≤ (k : Int)) = false := by simp; omega
        clear hb hr hcl d1 d2
        go_wp2_with fail
        go_ret2
        exact ⟨rfl, H, HR.out, HO.out.mono (by simp), fun k hk => .inl hk⟩
    · obtain rfl : k = G.length := by omega
      rw [Nat.sub_self, List.drop_zero]
      have e1 : decide ((G.length : Int) + 1 ≤ (G.length : Int)) = false := by simp; omega
      clear hb hr hcl d1 d2 d0
      go_wp2_with fail
      go_ret2
      exact ⟨rfl, H, HR.out, HO.out.mono (by simp), fun k hk => .inl hk⟩
theorem refBusy_any (h : RS w R H space life G) (hbig : G.length ≤ 8796093022208) :
    Calls Try.prog 51 #[.pointer (some ⟨R, 0, none⟩), .int .i64 now] w (RSPost w R H space life G (.tuple #[.int .i64 (idBusy life G now), .int .i64 (idBusyErr G now)])) := by
  unfold idBusy idBusyErr
  cases hm : idMay G now with
  | false => simp only [Bool.false_eq_true, if_false]; exact refBusy_no h hbig hm
  | true => simp only [if_true]; exact refBusy_ok h hbig hm
end
end Go.Proofs.Ytjlnkfbhbiinoaa
