/-
  IdentBusyWhen: its walk, where not too much is asked.
-/
import Derived.Test.YtjlnkfbhbiinoaaInone
namespace Go.Proofs.Ytjlnkfbhbiinoaa
open Go.RowKit
set_option linter.unusedVariables false
set_option linter.unusedSimpArgs false
attribute [local go_sem ↓] Go.wp_at_zero Go.wp_at_succ

def WithinRel (life now : Int) (G : List Int) (v7 v8 : Value) : Prop :=
  ∃ j : Nat, j ≤ G.length ∧ v8 = .int .i64 ((j : Int) - 1) ∧ v7 = .int .i64 ((G.length : Int) - (j : Int)) ∧ Hid (busyL life now (G.drop j) = G.drop j)
set_option maxRecDepth 100000 in
set_option maxHeartbeats 3200000 in
theorem within_any (FL : List Nat) (space life now : Int) (G : List Int) (A : Option Addr) (n c : Nat) (w : World) (hr : Row w 101 2 FL A n c (gotV space G)) (hn : n = G.length) (hb : n ≤ 1048576) (hasc : G.Pairwise (· ≤ ·)) (hbd : ∀ t ∈ G, 0 ≤ t ∧ t ≤ 1099511627776) (h0 : 0 ≤ now) (h1 : now ≤ 1099511627776) :
    Calls Try.prog 55 #[.slice A n c, .int .i64 now, .int .i64 life] w fun e w' => e = .returned (.int .i64 ((busyL life now G).length : Int)) ∧ w = w' := by
  subst hn
  have HR := Lib.hid hr
  have hl := hr.le
  clear hr
  have HASC := Lib.hid hasc; clear hasc
  have HBD := Lib.hid hbd; clear hbd
  have HL := Lib.hid hl; clear hl
  go_enter Try.func55, Try.ntmps55
  go_wp2_with fail
  go_loop [7, 8] (fun v7 v8 => WithinRel life now G v7 v8) (fun _ v => (intOf v + 1).toNat)
  case atStart => exact ⟨G.length, Nat.le_refl _, rfl, by rw [Int.sub_self], by rw [List.drop_of_length_le (Nat.le_refl _)]; rfl⟩
  case round =>
    obtain ⟨j, hj, rfl, rfl, HB⟩ := hrel
    rcases j with _ | m
    · rw [show ((0 : Nat) : Int) - 1 = -1 by decide]
      go_wp2_with fail
      go_ret
      refine ⟨ret_int ?_, rfl⟩
      have := HB.out
      rw [List.drop_zero] at this
      rw [this]
    · rw [show ((m + 1 : Nat) : Int) - 1 = (m : Int) by omega]
      have hgm : m < G.length := by omega
      obtain ⟨g, rfl, -, hc1⟩ := HR.out.cellAt (gotV_at space G m hgm).2
      have hbm := HBD.out _ (List.getElem_mem hgm)
      have HY := Lib.hid (show (now - G[m] < life → busyL life now (G.drop m) = G.drop m) ∧ (¬ now - G[m] < life → (busyL life now G).length = G.length - (m + 1)) from ⟨fun h => busyL_drop_all HASC.out hgm h, fun h => by
        have h2 := busyL_take_none (life := life) (now := now) HASC.out hgm h
        have h3 := busyL_split life now G (m + 1)
        rw [h2, List.nil_append, HB.out] at h3
        rw [h3, List.length_drop]⟩)
      generalize G[m] = y at *
      have hml := HL.out
      by_cases hlf : now - y < life
      · have hbk := HY.out.1 hlf
        have HBK := Lib.hid hbk; clear hbk HY
        go_wp2_with fail
        go_round
        case rel =>
          refine ⟨m, by omega, rfl, ?_, HBK⟩
          rw [show (G.length : Int) - ((m : Int) + 1) + 1 = (G.length : Int) - (m : Int) by omega]
        case measure => simp [intOf]
      · have hbk := HY.out.2 hlf
        have HBK := Lib.hid hbk; clear hbk HY
        have hdl : decide (now - y < life) = false := by simpa using hlf
        clear hlf
        go_wp2_with fail
        go_ret
        refine ⟨ret_int ?_, rfl⟩
        rw [HBK.out]
        omega
def BusywRel (w : World) (space life : Int) (S n : Nat) (v10 v11 v12 : Value) (wr : World) : Prop :=
  ∃ (k : Nat) (now : Int) (F FL : List Nat) (G : List Int) (A : Option Addr) (m c : Nat), k ≤ n ∧ v12 = .int .i64 k ∧ 0 ≤ now ∧ now ≤ 1099511627776 ∧ lastOf G ≤ now ∧ v11 = .int .i64 now ∧ v10 = .slice A m c ∧ m ≤ k ∧ Hid (AskAt w wr S F FL space life G A m c)
def Busyw2 (w : World) (space life : Int) (S : Nat) (FL : List Nat) (G : List Int) (A : Option Addr) (m c : Nat) (v19 : Value) (wr : World) : Prop :=
  ∃ (i : Nat) (F : List Nat), i ≤ 2 ∧ v19 = .int .i64 i ∧ Hid (AskAt w wr S F FL space life G A m c)

set_option maxRecDepth 100000 in
set_option maxHeartbeats 6400000 in
theorem identBusyWhen_walk (space life : Int) (A : Option Addr) (n c : Nat) (z : List Int) (w : World) (b0 : -9223372036854775808 ≤ space ∧ space ≤ 9223372036854775807) (b1 : -9223372036854775808 ≤ life ∧ life ≤ 9223372036854775807)
    (hz : z.length = n) (hA : Arg w 1 A n (z.flatMap encI64)) (hq : ∀ o ∈ z, (Lit.int .i64 o).wf = true) (hn : n ≤ 1048576) :
    Calls Try.prog 10 #[.int .i64 space, .int .i64 life, .slice A n c] w fun e w' => e = .returned (.bool true) ∧ Below w.heap.size w w' := by
  have HA := Lib.hid hA; clear hA
  have HZ := Lib.hid hz; clear hz
  have HQ := Lib.hid hq; clear hq
  have HM := Lib.hid (fun W => made_any space life W b0 b1)
  have hlb := mLife_bd life
  have hsb := mSpace_bd space
  clear b1 b0
  go_enter Try.func10, Try.ntmps10
  go_wp2_with fail
  refine (alive_any _).mono ?_
  rintro e w1 ⟨rfl, ho⟩
  have HO1 := Lib.hid ho
  clear ho
  go_wp2_with fail
  refine (HM.out _).mono ?_
  rintro e w2 ⟨rfl, hs, ho, hsz⟩
  have HINV : Hid (AskAt w w2 w1.heap.size [] [] (mSpace space) (mLife life) [] none 0 0) := by
    have s1 : Sep w w1 [] := ⟨by simp, by simp, by simp, HO1.out⟩
    have s2 := s1.add (F' := w1.heap.size :: (w1.heap.size + 1) :: []) ho (by simp) hs.lt
    have s3 := s2.add (F' := []) (Only.refl [] _) (by simp) (by simp)
    exact ⟨hs, Row.nil _ _ _ _, rfl, s3⟩
  clear hs ho hsz HM HO1
  generalize mLife life = lf at *
  generalize mSpace space = sp at *
  generalize w1.heap.size = S at *
  go_wp2_with fail
  go_loopw [10, 11, 12] (fun v10 v11 v12 wr => BusywRel w sp lf S n v10 v11 v12 wr) (fun _ _ i _ => n - (intOf i).toNat)
  case atStart => exact ⟨0, 0, [], [], [], none, 0, 0, Nat.zero_le _, rfl, by decide, by decide, by decide, rfl, rfl, Nat.le_refl _, HINV⟩
  case round =>
    clear HINV
    obtain ⟨k, now, F, FL, G, A1, m, c1, hk, rfl, hn0, hn1, hla, rfl, rfl, hmk, HI⟩ := hrel
    by_cases hlt : k < n
    · obtain ⟨bb, off, rfl, hbl, hc⟩ := HA.out.2 (by omega)
      have hkz : k < z.length := by rw [HZ.out]; exact hlt
      have e0 : wr.cell? ⟨bb, off + k, none⟩ = some (.int .i64 z[k]) := HI.out.sep.o.cell (hc k _ (encI64_at z k hkz)) (by simp)
      have hbz := bounds_i64 (HQ.out _ (List.getElem_mem hkz))
      clear hc hbl
      generalize z[k] = x at *
      have hsw := sWait_bd x
      have HST : Hid (∀ W, Calls Try.prog 53 #[.int .i64 now, .int .i64 x] W fun e w' => e = .returned (.int .i64 (now + sWait x)) ∧ W = w') := fun W => by
        have := step_any now x W hbz
        rw [wrap64_small (by omega) (by omega)] at this
        exact this
      clear hbz hkz
      have hmb : m ≤ 1048576 := by omega
      have hg := HI.out.s.good
      have hlt2 : lastOf G ≤ now + sWait x := by omega
      have hnow0 : 0 ≤ now + sWait x := by omega
      have hnow1 : now + sWait x ≤ 1108101562368 := by omega
      generalize now + sWait x = t at *
      have HBU : Hid (∀ W F, SI W S (S + 1) F sp lf G → Calls Try.prog 50 #[.pointer (some ⟨S, 0, none⟩), .int .i64 t] W (SPost W S (S + 1) F sp lf G (.tuple #[.int .i64 (idBusy lf G t), .int .i64 (idBusyErr G t)]))) := fun W F h => busy_any h
      by_cases htm : 1099511627776 < t
      · have hno : idMay G t = false := by unfold idMay; rw [decide_eq_false (by omega : ¬ t ≤ 1099511627776), Bool.and_false]
        have hbe : idBusyErr G t = 1 := by unfold idBusyErr; rw [hno]; rfl
        rw [hbe] at HBU
        generalize idBusy lf G t = bv at *
        clear hno hbe hg
        go_wp2_with fail
        refine (HST.out _).mono ?_
        rintro e W1 ⟨rfl, rfl⟩
        go_wp2_with fail
        refine (HBU.out _ _ HI.out.s).mono ?_
        rintro e W2 ⟨rfl, F2, q2, o2, f2⟩
        have HI2 := Lib.hid (HI.out.src q2 o2 f2)
        clear q2 o2 f2
        go_wp2_with fail
        go_ret
        exact ⟨rfl, HI2.out.sep.o.below (Nat.le_refl _) (by simp)⟩
      · have hye : idMay G t = true := by unfold idMay; rw [decide_eq_true hlt2, decide_eq_true (by omega : t ≤ 1099511627776)]; rfl
        have hbe : idBusyErr G t = 0 := by unfold idBusyErr; rw [if_pos hye]
        have hbv : idBusy lf G t = ((busyL lf t G).length : Int) := by unfold idBusy; rw [if_pos hye]
        have hcs : ((busyL lf t G).length : Int) ≤ sp := by
          have h1 := hg.cnt
          have h2 := busyL_le (life := lf) G hlt2
          omega
        have HWI : Hid (∀ W, Row W 101 2 FL A1 m c1 (gotV sp G) → Calls Try.prog 55 #[.slice A1 m c1, .int .i64 t, .int .i64 lf] W fun e w' => e = .returned (.int .i64 ((busyL lf t G).length : Int)) ∧ W = w') := fun W h => within_any FL sp lf t G A1 m c1 W h HI.out.n hmb hg.asc hg.bd hnow0 (by omega)
        have HASK : Hid (∀ W F, AskAt w W S F FL sp lf G A1 m c1 → Calls Try.prog 54 #[.pointer (some ⟨S, 0, none⟩), .slice A1 m c1, .int .i64 t] W (AskPost w S sp lf (idGot sp lf G t) (idErr sp lf G t))) := fun W F h => ask_any h hmb
        have hmn : min ((busyL lf t G).length : Int) sp = ((busyL lf t G).length : Int) := Int.min_eq_left hcs
        have HGN := Lib.hid HI.out.n
        rw [hbe, hbv] at HBU
        by_cases hfu : sp ≤ ((busyL lf t G).length : Int)
        · have hfl : idFull sp lf G t = true := by unfold idFull; exact decide_eq_true hfu
          have hge : idGot sp lf G t = G := by unfold idGot; rw [if_pos hye, if_pos hfl]
          have hee : idErr sp lf G t = 120 := by unfold idErr; rw [if_pos hye, if_pos hfl]
          rw [hge, hee] at HASK
          have HNX : Hid (∀ W F, SI W S (S + 1) F sp lf G → Calls Try.prog 48 #[.pointer (some ⟨S, 0, none⟩), .int .i64 t] W (SPost W S (S + 1) F sp lf G (.tuple #[.int .u32 0, .int .i64 120]))) := fun W F h => next_full h hye hfl
          obtain hsq : ((busyL lf t G).length : Int) = sp := by omega
          rw [hsq] at HBU HWI
          clear hye hbe hbv hcs hmn hfu hfl hge hee hsq hg
          have hne : (sp != sp) = false := by simp
          have heq : (sp == sp) = true := by simp
          have hmi : min sp sp = sp := Int.min_self sp
          go_wp2_with fail
          refine (HST.out _).mono ?_
          rintro e W1 ⟨rfl, rfl⟩
          go_wp2_with fail
          refine (HBU.out _ _ HI.out.s).mono ?_
          rintro e W2 ⟨rfl, F2, q2, o2, f2⟩
          have HI2 := Lib.hid (HI.out.src q2 o2 f2)
          clear q2 o2 f2
          go_wp2_with fail
          refine (HWI.out _ HI2.out.r).mono ?_
          rintro e W3 ⟨rfl, rfl⟩
          go_wp2_with fail
          refine (HASK.out _ _ HI2.out).mono ?_
          rintro e W4 ⟨F4, FL4, A4, m4, c4, rfl, hi4⟩
          have hm4 : m4 = m := by rw [hi4.n, HGN.out]
          subst hm4
          have HI4 := Lib.hid hi4
          clear hi4
          have hmo : ((m4 : Int) == (m4 : Int) + 1) = false := by simp; omega
          go_wp2_with fail
          clear hmo hmi
          go_loopw [19] (fun v19 wr => Busyw2 w sp lf S FL4 G A4 m4 c4 v19 wr) (fun i _ => 2 - (intOf i).toNat)
          case atStart => exact ⟨0, F4, by decide, rfl, HI4⟩
          case round =>
            clear HI4
            obtain ⟨i, F5, hi, rfl, HI5⟩ := hrel
            by_cases hi2 : i < 2
            · go_wp2_with fail
              refine (HNX.out _ _ HI5.out.s).mono ?_
              rintro e W6 ⟨rfl, F6, q6, o6, f6⟩
              have HI6 := Lib.hid (HI5.out.src q6 o6 f6)
              clear q6 o6 f6
              go_wp2_with fail
              refine (HBU.out _ _ HI6.out.s).mono ?_
              rintro e W7 ⟨rfl, F7, q7, o7, f7⟩
              have HI7 := Lib.hid (HI6.out.src q7 o7 f7)
              clear q7 o7 f7
              go_wp2_with fail
              go_roundw
              case rel => exact ⟨i + 1, F7, by omega, by go_num, HI7⟩
              case measure => simp [intOf]; omega
            · go_wp2_with fail
              go_roundw
              case rel => exact ⟨k + 1, t, F5, FL4, G, A4, m4, c4, by omega, by go_num, hnow0, by omega, hlt2, rfl, rfl, by omega, HI5⟩
              case measure => simp [intOf]; omega
        · have hfl : idFull sp lf G t = false := by unfold idFull; exact decide_eq_false hfu
          have hge : idGot sp lf G t = G ++ [t] := by unfold idGot; rw [if_pos hye, if_neg (by rw [hfl]; decide)]
          have hee : idErr sp lf G t = 0 := by unfold idErr; rw [if_pos hye, if_neg (by rw [hfl]; decide)]
          rw [hge, hee] at HASK
          have hnq : (((busyL lf t G).length : Int) == sp) = false := by simp; omega
          have hne : (((busyL lf t G).length : Int) != ((busyL lf t G).length : Int)) = false := by simp
          generalize ((busyL lf t G).length : Int) = bc at *
          clear hye hbe hbv hfl hge hee hg hfu
          go_wp2_with fail
          refine (HST.out _).mono ?_
          rintro e W1 ⟨rfl, rfl⟩
          go_wp2_with fail
          refine (HBU.out _ _ HI.out.s).mono ?_
          rintro e W2 ⟨rfl, F2, q2, o2, f2⟩
          have HI2 := Lib.hid (HI.out.src q2 o2 f2)
          clear q2 o2 f2
          go_wp2_with fail
          refine (HWI.out _ HI2.out.r).mono ?_
          rintro e W3 ⟨rfl, rfl⟩
          go_wp2_with fail
          refine (HASK.out _ _ HI2.out).mono ?_
          rintro e W4 ⟨F4, FL4, A4, m4, c4, rfl, hi4⟩
          have hm4 : m4 = m + 1 := by rw [hi4.n, HGN.out, List.length_append]; rfl
          subst hm4
          have HI4 := Lib.hid hi4
          clear hi4
          have hmo : (((m + 1 : Nat) : Int) == (m : Int) + 1) = true := by simp
          go_wp2_with fail
          clear hmo
          go_loopw [19] (fun v19 wr => Busyw2 w sp lf S FL4 (G ++ [t]) A4 (m + 1) c4 v19 wr) (fun i _ => 2 - (intOf i).toNat)
          case atStart => exact ⟨0, F4, by decide, rfl, HI4⟩
          case round =>
            clear HI4
            obtain ⟨i, F5, hi, rfl, HI5⟩ := hrel
            by_cases hi2 : i < 2
            all_goals
              go_wp2_with fail
              go_roundw
              case rel => exact ⟨k + 1, t, F5, FL4, G ++ [t], A4, m + 1, c4, by omega, by go_num, hnow0, by omega, by rw [lastOf_snoc]; exact Int.le_refl _, rfl, rfl, by omega, HI5⟩
              case measure => simp [intOf]; omega
    · go_wp2_with fail
      go_ret
      exact ⟨rfl, HI.out.sep.o.below (Nat.le_refl _) (by simp)⟩
end Go.Proofs.Ytjlnkfbhbiinoaa
