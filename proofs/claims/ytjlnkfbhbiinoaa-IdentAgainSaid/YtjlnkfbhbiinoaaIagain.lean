/-
  IdentAgain: its walk.
-/
import Derived.Test.YtjlnkfbhbiinoaaImade
import Derived.Test.YtjlnkfbhbiinoaaOps12
namespace Go.Proofs.Ytjlnkfbhbiinoaa
open Go.RowKit
set_option linter.unusedVariables false
set_option linter.unusedSimpArgs false
attribute [local go_sem ↓] Go.wp_at_zero Go.wp_at_succ

/-- Three sources in memory of the call's own; the first two gave at the same ticks. -/
structure Again (w wr : World) (space life : Int) (S1 S2 S3 : Nat) (F1 F2 F3 : List Nat) (G G3 : List Int) : Prop where
  a : SI wr S1 (S1 + 1) F1 space life G
  b : SI wr S2 (S2 + 1) F2 space life G
  c : SI wr S3 (S3 + 1) F3 space life G3
  sep : Sep w wr [S1 :: (S1 + 1) :: F1, S2 :: (S2 + 1) :: F2, S3 :: (S3 + 1) :: F3]
section
variable {w wr w2 : World} {space life : Int} {S1 S2 S3 : Nat} {F1 F2 F3 F' : List Nat} {G G' G3 : List Int}
theorem Again.stepA (h : Again w wr space life S1 S2 S3 F1 F2 F3 G G3) (hs : SI w2 S1 (S1 + 1) F' space life G') (ho : Only (S1 :: (S1 + 1) :: F1) wr w2) (hf : ∀ k ∈ F', k ∈ F1 ∨ wr.heap.size ≤ k) :
    SI w2 S2 (S2 + 1) F2 space life G ∧ SI w2 S3 (S3 + 1) F3 space life G3 ∧ Sep w w2 [S1 :: (S1 + 1) :: F', S2 :: (S2 + 1) :: F2, S3 :: (S3 + 1) :: F3] := by
  refine ⟨h.b.only ho (fun k hk => h.sep.d 1 0 (by decide) k hk), h.c.only ho (fun k hk => h.sep.d 2 0 (by decide) k hk), h.sep.step 0 (F' := S1 :: (S1 + 1) :: F') ho ?_ hs.lt⟩
  intro k hk
  simp only [List.mem_cons] at hk
  rcases hk with rfl | rfl | hk
  · exact .inl (by simp [List.getD])
  · exact .inl (by simp [List.getD])
  · rcases hf k hk with h | h
    · exact .inl (by simp [List.getD, h])
    · exact .inr h
theorem Again.stepC (hb : SI wr S2 (S2 + 1) F2 space life G) (ha : SI wr S1 (S1 + 1) F1 space life G') (sep : Sep w wr [S1 :: (S1 + 1) :: F1, S2 :: (S2 + 1) :: F2, S3 :: (S3 + 1) :: F3]) (hs : SI w2 S3 (S3 + 1) F' space life G3) (ho : Only (S3 :: (S3 + 1) :: F3) wr w2) (hf : ∀ k ∈ F', k ∈ F3 ∨ wr.heap.size ≤ k) :
    SI w2 S2 (S2 + 1) F2 space life G ∧ SI w2 S1 (S1 + 1) F1 space life G' ∧ Sep w w2 [S1 :: (S1 + 1) :: F1, S2 :: (S2 + 1) :: F2, S3 :: (S3 + 1) :: F'] := by
  refine ⟨hb.only ho (fun k hk => sep.d 1 2 (by decide) k hk), ha.only ho (fun k hk => sep.d 0 2 (by decide) k hk), sep.step 2 (F' := S3 :: (S3 + 1) :: F') ho ?_ hs.lt⟩
  intro k hk
  simp only [List.mem_cons] at hk
  rcases hk with rfl | rfl | hk
  · exact .inl (by simp [List.getD])
  · exact .inl (by simp [List.getD])
  · rcases hf k hk with h | h
    · exact .inl (by simp [List.getD, h])
    · exact .inr h
theorem Again.stepB (ha : SI wr S1 (S1 + 1) F1 space life G') (hc : SI wr S3 (S3 + 1) F3 space life G3) (sep : Sep w wr [S1 :: (S1 + 1) :: F1, S2 :: (S2 + 1) :: F2, S3 :: (S3 + 1) :: F3]) (hs : SI w2 S2 (S2 + 1) F' space life G') (ho : Only (S2 :: (S2 + 1) :: F2) wr w2) (hf : ∀ k ∈ F', k ∈ F2 ∨ wr.heap.size ≤ k) :
    Again w w2 space life S1 S2 S3 F1 F' F3 G' G3 := by
  refine ⟨ha.only ho (fun k hk => sep.d 0 1 (by decide) k hk), hs, hc.only ho (fun k hk => sep.d 2 1 (by decide) k hk), sep.step 1 (F' := S2 :: (S2 + 1) :: F') ho ?_ hs.lt⟩
  intro k hk
  simp only [List.mem_cons] at hk
  rcases hk with rfl | rfl | hk
  · exact .inl (by simp [List.getD])
  · exact .inl (by simp [List.getD])
  · rcases hf k hk with h | h
    · exact .inl (by simp [List.getD, h])
    · exact .inr h
end
/-- What a Next does to the list of ticks. -/
theorem idGot_cases (space life : Int) (G : List Int) (now : Int) : (idErr space life G now = 0 ∧ idGot space life G now = G ++ [now]) ∨ ((idErr space life G now = 1 ∨ idErr space life G now = 120) ∧ idGot space life G now = G) := by
  unfold idErr idGot
  cases idMay G now <;> cases idFull space life G now <;> simp
/-- A life behind the last of all no number is busy. -/
theorem later_free {space life : Int} {G : List Int} (h : Good space life G) (hb : lastOf G + life ≤ 1099511627776) :
    idMay G (lastOf G + life) = true ∧ idFull space life G (lastOf G + life) = false ∧ busyL life (lastOf G + life) G = [] := by
  have h0 := h.l0
  have hn : busyL life (lastOf G + life) G = [] := by
    unfold busyL
    apply List.filter_eq_nil_iff.2
    intro t ht
    have := le_lastOf h.asc t ht
    simp only [decide_eq_true_eq]
    omega
  refine ⟨?_, ?_, hn⟩
  · unfold idMay
    rw [decide_eq_true (by omega), decide_eq_true hb]
    rfl
  · unfold idFull
    rw [hn]
    have := h.sp1
    exact decide_eq_false (by simp only [List.length_nil]; omega)
def AgainRel (w : World) (space life : Int) (S1 S2 S3 n : Nat) (v16 v17 v18 v19 : Value) (wr : World) : Prop :=
  ∃ (k : Nat) (now : Int) (F1 F2 F3 : List Nat) (G G3 : List Int), k ≤ n ∧ v19 = .int .i64 k ∧ v17 = .int .i64 now ∧ v16 = .int .i64 (lastOf G) ∧ v18 = .int .i64 G.length ∧ G.length ≤ k ∧ Hid (Again w wr space life S1 S2 S3 F1 F2 F3 G G3)

set_option maxRecDepth 100000 in
set_option maxHeartbeats 6400000 in
theorem identAgain_walk (space life : Int) (A : Option Addr) (n c : Nat) (z : List Int) (w : World) (b0 : -9223372036854775808 ≤ space ∧ space ≤ 9223372036854775807) (b1 : -9223372036854775808 ≤ life ∧ life ≤ 9223372036854775807)
    (hz : z.length = n) (hA : Arg w 1 A n (z.flatMap encI64)) (hq : ∀ o ∈ z, (Lit.int .i64 o).wf = true) (hn : n ≤ c) (hr : c * 8 ≤ 140737488351232) :
    Calls Try.prog 11 #[.int .i64 space, .int .i64 life, .slice A n c] w fun e w' => e = .returned (.bool true) ∧ Below w.heap.size w w' := by
  have hn2 : n ≤ 17592186043904 := by omega
  clear hr hn
  have HA := Lib.hid hA; clear hA
  have HZ := Lib.hid hz; clear hz
  have HQ := Lib.hid hq; clear hq
  have HM : Hid (∀ lf W, (-9223372036854775808 ≤ lf ∧ lf ≤ 9223372036854775807) → Calls Try.prog 52 #[.int .i64 space, .int .i64 lf] W fun e w' => e = .returned (.tuple #[.pointer (some ⟨W.heap.size, 0, none⟩), .int .i64 (mSpace space), .int .i64 (mLife lf)]) ∧ SI w' W.heap.size (W.heap.size + 1) [] (mSpace space) (mLife lf) [] ∧ Only [] W w' ∧ w'.heap.size = W.heap.size + 1 + 1) := fun lf W hlf => made_any space lf W b0 hlf
  have hlb := mLife_bd life
  have hsb := mSpace_bd space
  have hlb2 : -9223372036854775808 ≤ mLife life ∧ mLife life ≤ 9223372036854775807 := by omega
  have HB1 := Lib.hid b1; clear b1 b0
  have HAG := Lib.hid (mLife_again life)
  have HLB2 := Lib.hid hlb2; clear hlb2
  go_enter Try.func11, Try.ntmps11
  go_wp2_with fail
  refine (alive_any _).mono ?_
  rintro e w1 ⟨rfl, ho⟩
  have HO1 := Lib.hid ho
  clear ho
  go_wp2_with fail
  refine (HM.out life _ HB1.out).mono ?_
  rintro e w2 ⟨rfl, hs, ho, hsz⟩
  have HS2 := Lib.hid hs
  have HO2 := Lib.hid ho
  clear hs ho hsz
  generalize hLF : mLife life = lf at *
  go_wp2_with fail
  refine (HM.out lf _ HLB2.out).mono ?_
  rintro e w3 ⟨rfl, hs, ho, hsz⟩
  rw [HAG.out] at hs
  rw [HAG.out]
  have HS3 := Lib.hid hs
  have HO3 := Lib.hid ho
  clear hs ho hsz
  go_wp2_with fail
  refine (HM.out lf _ HLB2.out).mono ?_
  rintro e w4 ⟨rfl, hs, ho, hsz⟩
  rw [HAG.out] at hs
  rw [HAG.out]
  have HS4 := Lib.hid hs
  have HO4 := Lib.hid ho
  clear hs ho hsz hLF HB1
  generalize mSpace space = sp at *
  have HINV : Hid (Again w w4 sp lf w1.heap.size w2.heap.size w3.heap.size [] [] [] [] []) := by
    have q2 := HS2.out.lt
    have q3 := HS3.out.lt
    have q4 := HS4.out.lt
    have s1 : Sep w w1 [] := ⟨by simp, by simp, by simp, HO1.out⟩
    have s2 := s1.add (F' := w1.heap.size :: (w1.heap.size + 1) :: []) HO2.out (by simp) q2
    have s3 := s2.add (F' := w2.heap.size :: (w2.heap.size + 1) :: []) HO3.out (by simp) q3
    have s4 := s3.add (F' := w3.heap.size :: (w3.heap.size + 1) :: []) HO4.out (by simp) q4
    exact ⟨(HS2.out.only HO3.out (by simp)).only HO4.out (by simp), HS3.out.only HO4.out (by simp), HS4.out, s4⟩
  generalize w1.heap.size = S1 at *
  generalize w2.heap.size = S2 at *
  generalize w3.heap.size = S3 at *
  clear HO1 HO2 HO3 HO4 HS2 HS3 HS4 HM
  go_wp2_with fail
  go_loopw [16, 17, 18, 19] (fun v16 v17 v18 v19 wr => AgainRel w sp lf S1 S2 S3 n v16 v17 v18 v19 wr) (fun _ _ _ i _ => n - (intOf i).toNat)
  case atStart => exact ⟨0, 0, [], [], [], [], [], Nat.zero_le _, rfl, rfl, rfl, rfl, Nat.le_refl _, HINV⟩
  case round =>
    clear HINV
    obtain ⟨k, now, F1, F2, F3, G, G3, hk, rfl, rfl, rfl, rfl, hgl, HI⟩ := hrel
    by_cases hlt : k < n
    · obtain ⟨bb, off, rfl, hbl, hc⟩ := HA.out.2 (by omega)
      have hkz : k < z.length := by rw [HZ.out]; exact hlt
      have e0 : wr.cell? ⟨bb, off + k, none⟩ = some (.int .i64 z[k]) := HI.out.sep.o.cell (hc k _ (encI64_at z k hkz)) (by simp)
      have hbz := bounds_i64 (HQ.out _ (List.getElem_mem hkz))
      clear hc
      generalize z[k] = x at *
      have HST : Hid (∀ W, Calls Try.prog 53 #[.int .i64 now, .int .i64 x] W fun e w' => e = .returned (.int .i64 (wrap64 (now + sWait x))) ∧ W = w') := fun W => step_any now x W hbz
      generalize wrap64 (now + sWait x) = t at *
      have HGC := Lib.hid (idGot_cases sp lf G t)
      have HXA : Hid (∀ W S V F, SI W S V F sp lf G → Calls Try.prog 48 #[.pointer (some ⟨S, 0, none⟩), .int .i64 t] W (SPost W S V F sp lf (idGot sp lf G t) (.tuple #[.int .u32 (idNum sp lf G t), .int .i64 (idErr sp lf G t)]))) := fun W S V F h => next_any h
      have HXC : Hid (∀ W S V F, SI W S V F sp lf G3 → Calls Try.prog 48 #[.pointer (some ⟨S, 0, none⟩), .int .i64 0] W (SPost W S V F sp lf (idGot sp lf G3 0) (.tuple #[.int .u32 (idNum sp lf G3 0), .int .i64 (idErr sp lf G3 0)]))) := fun W S V F h => next_any h
      have HLG := Lib.hid (show lastOf (G ++ [t]) = t ∧ ((G ++ [t]).length : Int) = (G.length : Int) + 1 from ⟨lastOf_snoc _ _, by simp⟩)
      generalize idNum sp lf G t = nn at *
      generalize idErr sp lf G t = ee at *
      generalize hGG : idGot sp lf G t = GG at *
      clear hGG
      generalize idNum sp lf G3 0 = n3 at *
      generalize idErr sp lf G3 0 = e3 at *
      generalize hG9 : idGot sp lf G3 0 = G9 at *
      clear hG9
      have hw9 : IntKind.i64.wrap ((G.length : Int) + 1) = (G.length : Int) + 1 := by rw [IntKind.wrap_i64]; omega
      have hg0 : G.length ≤ 17592186043904 := by omega
      clear hbz
      generalize hlas : lastOf G = las at *
      have HLAS := Lib.hid hlas; clear hlas
      generalize hgln : G.length = gl at *
      have HGLN := Lib.hid hgln; clear hgln
      go_wp2_with fail
      refine (HST.out _).mono ?_
      rintro e W1 ⟨rfl, rfl⟩
      go_wp2_with fail
      refine (HXA.out _ _ _ _ HI.out.a).mono ?_
      rintro e W2 ⟨rfl, E1, s2, o2, f2⟩
      obtain ⟨p1, p2, p3⟩ := HI.out.stepA s2 o2 f2
      have P0 := Lib.hid s2
      have P1 := Lib.hid p1
      have P2 := Lib.hid p2
      have P3 := Lib.hid p3
      clear s2 o2 f2 p1 p2 p3
      go_wp2_with fail
      refine (HXC.out _ _ _ _ P2.out).mono ?_
      rintro e W3 ⟨rfl, E3, s3, o3, f3⟩
      obtain ⟨p1, p2, p3⟩ := Again.stepC P1.out P0.out P3.out s3 o3 f3
      have Q0 := Lib.hid s3
      have Q1 := Lib.hid p1
      have Q2 := Lib.hid p2
      have Q3 := Lib.hid p3
      clear s3 o3 f3 p1 p2 p3 P0 P1 P2 P3
      go_wp2_with fail
      refine (HXA.out _ _ _ _ Q1.out).mono ?_
      rintro e W4 ⟨rfl, E2, s4, o4, f4⟩
      have HIN := Lib.hid (Again.stepB Q2.out Q0.out Q3.out s4 o4 f4)
      clear s4 o4 f4 Q0 Q1 Q2 Q3 HXA HXC HST HI
      have hne : (nn != nn) = false := by simp
      have hnf : (ee != ee) = false := by simp
      rcases HGC.out with ⟨rfl, h2⟩ | ⟨h1, h2⟩
      · have H2 := Lib.hid h2
        clear h2 HGC
        go_wp2_with fail
        go_roundw
        case rel =>
          refine ⟨k + 1, t, E1, E2, E3, GG, G9, by omega, by go_num, rfl, ?_, ?_, ?_, HIN⟩
          · rw [H2.out, HLG.out.1]
          · rw [H2.out, HLG.out.2]
          · rw [H2.out, List.length_append, HGLN.out]; simp; omega
        case measure => simp [intOf]; omega
      · have H2 := Lib.hid h2
        have hee : (ee == 0) = false := by rcases h1 with rfl | rfl <;> decide
        clear h2 HGC h1
        go_wp2_with fail
        go_roundw
        case rel =>
          refine ⟨k + 1, t, E1, E2, E3, GG, G9, by omega, by go_num, rfl, ?_, ?_, ?_, HIN⟩
          · rw [H2.out, HLAS.out]
          · rw [H2.out, HGLN.out]
          · rw [H2.out, HGLN.out]; omega
        case measure => simp [intOf]; omega
    · have hg := HI.out.a.good
      have hla := hg.last
      have HG := Lib.hid hg; clear hg
      by_cases hend : 1099511627776 < lastOf G + lf
      · go_wp2_with fail
        go_ret
        exact ⟨rfl, HI.out.sep.o.below (Nat.le_refl _) (by simp)⟩
      · obtain ⟨u1, u2, u3⟩ := later_free HG.out (by omega)
        have HB : Hid (∀ W S V F, SI W S V F sp lf G → Calls Try.prog 50 #[.pointer (some ⟨S, 0, none⟩), .int .i64 (lastOf G + lf)] W (SPost W S V F sp lf G (.tuple #[.int .i64 0, .int .i64 0]))) := fun W S V F h => by
          have := busy_any (now := lastOf G + lf) h
          rw [idBusy, idBusyErr, if_pos u1, if_pos u1, u3] at this
          exact this
        have HX : Hid (∀ W S V F, SI W S V F sp lf G → Calls Try.prog 48 #[.pointer (some ⟨S, 0, none⟩), .int .i64 (lastOf G + lf)] W (SPost W S V F sp lf (G ++ [lastOf G + lf]) (.tuple #[.int .u32 ((G.length : Int) % sp), .int .i64 0]))) := fun W S V F h => next_ok h u1 u2
        clear u1 u2 u3
        have hmod : 0 ≤ (G.length : Int) % sp ∧ (G.length : Int) % sp < 4294967296 := by
          have h1 := Int.emod_nonneg (G.length : Int) (show sp ≠ 0 by omega)
          have h2 := Int.emod_lt_of_pos (G.length : Int) (show (0 : Int) < sp by omega)
          omega
        obtain ⟨hm1, hm2⟩ := hmod
        have hsp0 : ¬ sp = 0 := by omega
        generalize hlas : lastOf G = las at *
        have HLAS := Lib.hid hlas; clear hlas
        generalize hgln : G.length = gl at *
        have HGLN := Lib.hid hgln; clear hgln
        have heq : ((gl : Int) % sp == (gl : Int) % sp) = true := by simp
        go_wp2_with fail
        refine (HB.out _ _ _ _ HI.out.a).mono ?_
        rintro e W2 ⟨rfl, E1, s2, o2, f2⟩
        obtain ⟨p1, p2, p3⟩ := HI.out.stepA s2 o2 f2
        have P0 := Lib.hid s2
        have P3 := Lib.hid p3
        clear s2 o2 f2 p1 p2 p3
        go_wp2_with fail
        refine (HX.out _ _ _ _ P0.out).mono ?_
        rintro e W3 ⟨rfl, E2, s3, o3, f3⟩
        have HP := Lib.hid (P3.out.step 0 (F' := []) o3 (by simp) (by simp)).o
        clear s3 o3 f3
        go_wp2_with fail
        go_ret
        exact ⟨rfl, HP.out.below (Nat.le_refl _) (by simp)⟩
end Go.Proofs.Ytjlnkfbhbiinoaa
