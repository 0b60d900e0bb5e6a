/-
  IdentNone: its walk, where not too much is asked.
-/
import Derived.Test.YtjlnkfbhbiinoaaIask
import Derived.Test.YtjlnkfbhbiinoaaIrp
import Derived.Test.YtjlnkfbhbiinoaaOps12
namespace Go.Proofs.Ytjlnkfbhbiinoaa
open Go.RowKit
set_option linter.unusedVariables false
set_option linter.unusedSimpArgs false
attribute [local go_sem ↓] Go.wp_at_zero Go.wp_at_succ

/-- Of two that were given within one life the numbers differ. -/
def Fair (space life : Int) (G : List Int) : Prop := ∀ (i k : Nat) (hi : i < G.length) (hk : k < i), G[i] - G[k] < life → ((i - k : Nat) : Int) < space
theorem Fair.nil (space life : Int) : Fair space life [] := fun i k hi => by simp at hi
theorem Fair.next {space life : Int} {G : List Int} (h : Fair space life G) (hg : Good space life G) (now : Int) : Fair space life (idGot space life G now) := by
  unfold idGot
  split
  · split
    · exact h
    · rename_i hm hf
      intro i k hi hk hl
      rw [List.length_append, List.length_singleton] at hi
      rcases Nat.lt_or_ge i G.length with h1 | h1
      · rw [List.getElem_append_left h1, List.getElem_append_left (by omega)] at hl
        exact h i k h1 hk hl
      · obtain rfl : i = G.length := by omega
        rw [List.getElem_append_right (by omega), List.getElem_append_left hk] at hl
        simp at hl
        have h2 := busyL_drop_all (life := life) (now := now) hg.asc hk hl
        have h3 := busyL_split life now G k
        have h4 : (busyL life now G).length = (busyL life now (G.take k)).length + (G.length - k) := by
          rw [h3, List.length_append, h2, List.length_drop]
        have h5 : ¬ space ≤ ((busyL life now G).length : Int) := by
          intro hh
          exact hf (by unfold idFull; exact decide_eq_true hh)
        omega
  · exact h
theorem Fair.ne {space life : Int} {G : List Int} (h : Fair space life G) (i k : Nat) (hi : i < G.length) (hk : k < i) (hl : G[i] - G[k] < life) : ((k : Int) % space == (i : Int) % space) = false := by
  have h1 := h i k hi hk hl
  have hs : 0 < space := by omega
  have : ¬ (k : Int) % space = (i : Int) % space := by
    intro he
    have h2 := Int.emod_emod_of_dvd (i - k : Int) (Int.dvd_refl space)
    have h3 : ((i : Int) - k) % space = 0 := by
      rw [Int.sub_emod, he]
      simp
    have h4 : ((i : Int) - k) % space = (i : Int) - k := Int.emod_eq_of_lt (by omega) (by omega)
    omega
  simpa using this
theorem wrap64_small {x : Int} (h1 : -9223372036854775808 ≤ x) (h2 : x ≤ 9223372036854775807) : wrap64 x = x := by unfold wrap64; omega

theorem idGot_length (space life : Int) (G : List Int) (now : Int) : (idGot space life G now).length ≤ G.length + 1 := by
  unfold idGot
  split
  · split
    · omega
    · simp
  · omega
def NoneRel (w : World) (space life : Int) (S n : Nat) (v10 v11 v12 : Value) (wr : World) : Prop :=
  ∃ (k : Nat) (now : Int) (F FL : List Nat) (G : List Int) (A : Option Addr) (m c : Nat), k ≤ n ∧ v12 = .int .i64 k ∧ 0 ≤ now ∧ now ≤ 1108101562368 ∧ v11 = .int .i64 now ∧ v10 = .slice A m c ∧ m ≤ k ∧ Hid (Fair space life G) ∧ Hid (AskAt w wr S F FL space life G A m c)
def None2 (w : World) (space life : Int) (S : Nat) (F FL : List Nat) (G : List Int) (A : Option Addr) (m c : Nat) (v13 : Value) (wr : World) : Prop :=
  ∃ i : Nat, i ≤ m ∧ v13 = .int .i64 i ∧ Hid (AskAt w wr S F FL space life G A m c)
def None3 (w : World) (space life : Int) (S : Nat) (F FL : List Nat) (G : List Int) (A : Option Addr) (m c i : Nat) (v14 : Value) (wr : World) : Prop :=
  (v14 = .int .i64 (-1) ∨ ∃ k : Nat, k < i ∧ v14 = .int .i64 (k : Int)) ∧ Hid (AskAt w wr S F FL space life G A m c)

set_option maxRecDepth 100000 in
set_option maxHeartbeats 6400000 in
theorem identNone_walk (space life : Int) (A : Option Addr) (n c : Nat) (z : List Int) (w : World) (b0 : -9223372036854775808 ≤ space ∧ space ≤ 9223372036854775807) (b1 : -9223372036854775808 ≤ life ∧ life ≤ 9223372036854775807)
    (hz : z.length = n) (hA : Arg w 1 A n (z.flatMap encI64)) (hq : ∀ o ∈ z, (Lit.int .i64 o).wf = true) (hn : n ≤ 1048576) :
    Calls Try.prog 9 #[.int .i64 space, .int .i64 life, .slice A n c] w fun e w' => e = .returned (.bool true) ∧ Below w.heap.size w w' := by
  have HA := Lib.hid hA; clear hA
  have HZ := Lib.hid hz; clear hz
  have HQ := Lib.hid hq; clear hq
  have HM := Lib.hid (fun W => made_any space life W b0 b1)
  have hlb := mLife_bd life
  have hsb := mSpace_bd space
  clear b1 b0
  go_enter Try.func9, Try.ntmps9
  go_wp2_with fail
  refine (alive_any _).mono ?_
  rintro e w1 ⟨rfl, ho⟩
  have HO1 := Lib.hid ho
  clear ho
  go_wp2_with fail
  refine (HM.out _).mono ?_
  rintro e w2 ⟨rfl, hs, ho, hsz⟩
  have HINV : Hid (AskAt w w2 w1.heap.size [] [] (mSpace space) (mLife life) [] none 0 0) := by
    have s1 : Sep w w1 [] := ⟨by simp, by simp, by simp, HO1.out⟩
    have s2 := s1.add (F' := w1.heap.size :: (w1.heap.size + 1) :: []) ho (by simp) hs.lt
    have s3 := s2.add (F' := []) (Only.refl [] _) (by simp) (by simp)
    exact ⟨hs, Row.nil _ _ _ _, rfl, s3⟩
  clear hs ho hsz HM HO1
  generalize mLife life = lf at *
  generalize mSpace space = sp at *
  generalize w1.heap.size = S at *
  go_wp2_with fail
  go_loopw [10, 11, 12] (fun v10 v11 v12 wr => NoneRel w sp lf S n v10 v11 v12 wr) (fun _ _ i _ => n - (intOf i).toNat)
  case atStart => exact ⟨0, 0, [], [], [], none, 0, 0, Nat.zero_le _, rfl, by decide, by decide, rfl, rfl, Nat.le_refl _, Lib.hid (Fair.nil _ _), HINV⟩
  case round =>
    clear HINV
    obtain ⟨k, now, F, FL, G, A1, m, c1, hk, rfl, hn0, hn1, rfl, rfl, hmk, HF, HI⟩ := hrel
    by_cases hgo : k < n ∧ now ≤ 1099511627776
    · obtain ⟨hlt, hnm⟩ := hgo
      obtain ⟨bb, off, rfl, hbl, hc⟩ := HA.out.2 (by omega)
      have hkz : k < z.length := by rw [HZ.out]; exact hlt
      have e0 : wr.cell? ⟨bb, off + k, none⟩ = some (.int .i64 z[k]) := HI.out.sep.o.cell (hc k _ (encI64_at z k hkz)) (by simp)
      have hbz := bounds_i64 (HQ.out _ (List.getElem_mem hkz))
      clear hc hbl
      generalize z[k] = x at *
      have hsw := sWait_bd x
      have HST : Hid (∀ W, Calls Try.prog 53 #[.int .i64 now, .int .i64 x] W fun e w' => e = .returned (.int .i64 (now + sWait x)) ∧ W = w') := fun W => by
        have := step_any now x W hbz
        rw [wrap64_small (by omega) (by omega)] at this
        exact this
      clear hbz hkz
      have HFN := Lib.hid (HF.out.next HI.out.s.good (now + sWait x))
      have HLN := Lib.hid (idGot_length sp lf G (now + sWait x))
      have HGL := Lib.hid HI.out.n
      have HASK : Hid (∀ W, AskAt w W S F FL sp lf G A1 m c1 → Calls Try.prog 54 #[.pointer (some ⟨S, 0, none⟩), .slice A1 m c1, .int .i64 (now + sWait x)] W (AskPost w S sp lf (idGot sp lf G (now + sWait x)) (idErr sp lf G (now + sWait x)))) := fun W h => ask_any h (by omega)
      have hnow0 : 0 ≤ now + sWait x := by omega
      have hnow1 : now + sWait x ≤ 1108101562368 := by omega
      generalize now + sWait x = t at *
      generalize idGot sp lf G t = GG at *
      generalize idErr sp lf G t = ee at *
      go_wp2_with fail
      refine (HST.out _).mono ?_
      rintro e W1 ⟨rfl, rfl⟩
      go_wp2_with fail
      refine (HASK.out _ HI.out).mono ?_
      rintro e W2 ⟨F2, FL2, A2, m2, c2, rfl, hi2⟩
      have HI2 := Lib.hid hi2
      clear hi2
      go_wp2_with fail
      go_roundw
      case rel => exact ⟨k + 1, t, F2, FL2, GG, A2, m2, c2, by omega, by go_num, hnow0, hnow1, rfl, rfl, by have := HI2.out.n; have := HLN.out; have := HGL.out; omega, HFN, HI2⟩
      case measure => simp [intOf]; omega
    · have hcond : (¬ k < n) ∨ (k < n ∧ decide (now ≤ 1099511627776) = false) := by
        by_cases h : k < n
        · right; exact ⟨h, by simp; omega⟩
        · left; exact h
      clear hgo
      rcases hcond with hlt | ⟨hlt, hnm⟩
      all_goals
        have hbig : m ≤ 1048576 := by omega
        go_wp2_with fail
        go_loopw [13] (fun v13 wr => None2 w sp lf S F FL G A1 m c1 v13 wr) (fun i _ => m - (intOf i).toNat)
        case atStart => exact ⟨0, Nat.zero_le _, rfl, HI⟩
        case round =>
          obtain ⟨wo, rfl⟩ : ∃ wo : World, wo = wr := ⟨_, rfl⟩
          clear HI
          obtain ⟨i, him, rfl, HI⟩ := hrel
          by_cases hil : i < m
          · have hgn := HI.out.n
            have hml := HI.out.r.le
            obtain ⟨g, rfl, -, hc0⟩ := HI.out.r.cellAt (gotV_at sp G i (by omega)).1
            have hmod : 0 ≤ (i : Int) % sp ∧ (i : Int) % sp < 4294967296 := by
              have h1 := Int.emod_nonneg (i : Int) (show sp ≠ 0 by omega)
              have h2 := Int.emod_lt_of_pos (i : Int) (show (0 : Int) < sp by omega)
              omega
            obtain ⟨hm1, hm2⟩ := hmod
            have htm : (i : Int).tmod sp = (i : Int) % sp := Int.tmod_eq_emod_of_nonneg (by omega)
            have hsp0 : ¬ sp = 0 := by omega
            have heq : ((i : Int) % sp != (i : Int) % sp) = false := by simp
            have HTM := Lib.hid htm; clear htm
            have HGN := Lib.hid hgn; clear hgn
            go_wp2_with fail
            have htm := HTM.out
            go_quiet (fail)
            clear htm hsp0 hc0
            have hI1 := HI.out.only ((Only.refl [] wo).drewN nq)
            have HI1 := Lib.hid hI1
            clear hI1 HI heq hm1 hm2 HTM
            generalize wo.drewN nq = wo2 at *
            go_wp2_with fail
            go_loopw [14] (fun v14 wr => None3 w sp lf S F FL G (some ⟨g, 0, none⟩) m c1 i v14 wr) (fun v _ => (intOf v + 1).toNat)
            case atStart =>
              refine ⟨?_, HI1⟩
              rcases Nat.eq_zero_or_pos i with rfl | hi0
              · exact .inl rfl
              · exact .inr ⟨i - 1, by omega, by rw [show ((i - 1 : Nat) : Int) = (i : Int) - 1 by omega]⟩
            case round =>
              clear HI1
              obtain ⟨hv, HI⟩ := hrel
              rcases hv with rfl | ⟨k2, hk2, rfl⟩
              · go_wp2_with fail
                go_quiet (fail)
                go_wp2_with fail
                go_roundw
                case rel => exact ⟨i + 1, by omega, by go_num, HI.out.only ((Only.refl [] _).drewN nq)⟩
                case measure => simp [intOf]; omega
              · have hgi : i < G.length := by have := HGN.out; omega
                have hgk : k2 < G.length := by omega
                obtain ⟨g1, e1, -, ca0⟩ := HI.out.r.cellAt (gotV_at sp G i hgi).1
                obtain ⟨g2, e2, -, ca1⟩ := HI.out.r.cellAt (gotV_at sp G i hgi).2
                obtain ⟨g3, e3, -, cb0⟩ := HI.out.r.cellAt (gotV_at sp G k2 hgk).1
                obtain ⟨g4, e4, -, cb1⟩ := HI.out.r.cellAt (gotV_at sp G k2 hgk).2
                injection e1 with e1; injection e1 with e1; subst e1
                injection e2 with e2; injection e2 with e2; subst e2
                injection e3 with e3; injection e3 with e3; subst e3
                injection e4 with e4; injection e4 with e4; subst e4
                have hgd := HI.out.s.good
                have bi := hgd.bd _ (List.getElem_mem hgi)
                have bk := hgd.bd _ (List.getElem_mem hgk)
                have HNE := Lib.hid (HF.out.ne i k2 hgi hk2)
                clear hgd
                generalize G[i] = yi at *
                generalize G[k2] = yk at *
                generalize (i : Int) % sp = ni at *
                generalize (k2 : Int) % sp = nk at *
                clear hgi hgk
                have hw : IntKind.i64.wrap (yi - yk) = yi - yk := by rw [IntKind.wrap_i64]; omega
                have hkm : (k2 : Int) < (m : Int) := by omega
                have hkm0 : (0 : Int) ≤ (k2 : Int) := by omega
                have hdk : decide ((0 : Int) ≤ (k2 : Int)) = true := by simp
                have HW := Lib.hid hw; clear hw
                by_cases hlf : yi - yk < lf
                · have hne := HNE.out hlf
                  have HNE2 := Lib.hid hne; clear hne HNE
                  have hdl : decide (yi - yk < lf) = true := by simpa using hlf
                  clear hlf
                  go_wp2_with fail
                  have hw := HW.out
                  go_quiet (fail)
                  clear hw hdl ca1 cb1
                  have HI2 := Lib.hid (HI.out.only ((Only.refl [] wr).drewN nq))
                  go_wp2_with fail
                  have hne2 := HNE2.out
                  go_quiet (fail)
                  clear hne2
                  go_wp2_with fail
                  go_roundw
                  case rel =>
                    refine ⟨?_, HI.out.only ((Only.refl [] wr).drewN _)⟩
                    rcases Nat.eq_zero_or_pos k2 with rfl | hk0
                    · exact .inl rfl
                    · exact .inr ⟨k2 - 1, by omega, by rw [show ((k2 - 1 : Nat) : Int) = (k2 : Int) - 1 by omega]⟩
                  case measure => simp [intOf]
                · have hdl : decide (yi - yk < lf) = false := by simpa using hlf
                  clear hlf HNE
                  go_wp2_with fail
                  have hw := HW.out
                  go_quiet (fail)
                  clear hw hdl ca1 cb1 ca0 cb0
                  go_wp2_with fail
                  go_roundw
                  case rel => exact ⟨i + 1, by omega, by go_num, HI.out.only ((Only.refl [] _).drewN nq)⟩
                  case measure => simp [intOf]; omega
          · go_wp2_with fail
            go_ret
            exact ⟨rfl, HI.out.sep.o.below (Nat.le_refl _) (by simp)⟩
end Go.Proofs.Ytjlnkfbhbiinoaa
