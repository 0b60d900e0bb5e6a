/-
  IdentBounds: its walk.
-/
import Derived.Test.YtjlnkfbhbiinoaaIdi
namespace Go.Proofs.Ytjlnkfbhbiinoaa
open Go.RowKit
set_option linter.unusedVariables false
set_option linter.unusedSimpArgs false
attribute [local go_sem ↓] Go.wp_at_zero Go.wp_at_succ

theorem SI.call {w0 w w' : World} {S V : Nat} {F F' : List Nat} (hS : w0.heap.size ≤ S) (hV : w0.heap.size ≤ V) (hF : ∀ k ∈ F, w0.heap.size ≤ k) (h : Only [] w0 w) (ho : Only (S :: V :: F) w w') (hf : ∀ k ∈ F', k ∈ F ∨ w.heap.size ≤ k) :
    Only [] w0 w' ∧ ∀ k ∈ F', w0.heap.size ≤ k := by
  refine ⟨h.trans ho ?_, fun k hk => ?_⟩
  · intro k hk
    right
    rcases List.mem_cons.1 hk with rfl | hk
    · exact hS
    · rcases List.mem_cons.1 hk with rfl | hk
      · exact hV
      · exact hF k hk
  · rcases hf k hk with h1 | h1
    · exact hF k h1
    · exact Nat.le_trans h.size h1
theorem lastOf_one (x : Int) : lastOf [x] = x := rfl
theorem idMay_yes {G : List Int} {now : Int} (h : lastOf G ≤ now) (h' : now ≤ 1099511627776) : idMay G now = true := by
  unfold idMay
  rw [decide_eq_true h, decide_eq_true h']
  rfl
theorem idMay_no {G : List Int} {now : Int} (h : now < lastOf G ∨ 1099511627776 < now) : idMay G now = false := by
  unfold idMay
  rcases h with h | h
  · rw [decide_eq_false (by omega : ¬ lastOf G ≤ now)]
    rfl
  · rw [decide_eq_false (by omega : ¬ now ≤ 1099511627776), Bool.and_false]
theorem ident_first {space life at_ : Int} (h1 : 1 ≤ space) (h : 0 ≤ at_) (h' : at_ ≤ 1099511627776) : idGot space life [] at_ = [at_] ∧ idNum space life [] at_ = 0 ∧ idErr space life [] at_ = 0 := by
  have hm : idMay [] at_ = true := idMay_yes (by rw [lastOf_nil]; exact h) h'
  have hf : idFull space life [] at_ = false := by
    unfold idFull
    exact decide_eq_false (by simp only [busyL, List.filter_nil, List.length_nil]; omega)
  simp [idGot, idNum, idErr, hm, hf]
theorem ident_off {space life at_ : Int} (h : at_ < 0 ∨ 1099511627776 < at_) : idMay [] at_ = false :=
  idMay_no (by rw [lastOf_nil]; exact h)
theorem ident_second_off {at_ now : Int} (h : now < at_ ∨ 1099511627776 < now) : idMay [at_] now = false :=
  idMay_no (by rw [lastOf_one]; exact h)
theorem ident_second {space life at_ now : Int} (h1 : 1 ≤ space) (h : at_ ≤ now) (h' : now ≤ 1099511627776) : idMay [at_] now = true ∧ idFull space life [at_] now = (decide (space = 1) && decide (now - at_ < life)) := by
  refine ⟨idMay_yes (by rw [lastOf_one]; exact h) h', ?_⟩
  unfold idFull busyL
  by_cases h2 : now - at_ < life
  · by_cases h3 : space = 1
    · simp [h2, h3]
    · have h4 : ¬ space ≤ 1 := by omega
      simp [h2, h3, h4]
  · have h4 : ¬ space ≤ 0 := by omega
    simp [h2, h4]

set_option maxRecDepth 100000 in
set_option maxHeartbeats 1600000 in
theorem bounds_no (space life at_ now : Int) (w : World) (h : space < 1 ∨ 4294967296 < space ∨ life < 0 ∨ 4294967296 < life) :
    Calls Try.prog 12 #[.int .i64 space, .int .i64 life, .int .i64 at_, .int .i64 now] w fun e w' => e = .returned (.bool true) ∧ Below w.heap.size w w' := by
  have HN : Hid (∀ W, Calls Try.prog 46 #[.int .i64 space, .int .i64 life] W fun e w' => e = .returned (.tuple #[.pointer none, .int .i64 1]) ∧ W = w') := fun W => newIdent_no space life W h
  have hcase : (space < 1) ∨ (¬ space < 1 ∧ 4294967296 < space) ∨ (¬ space < 1 ∧ ¬ 4294967296 < space ∧ life < 0) ∨ (¬ space < 1 ∧ ¬ 4294967296 < space ∧ ¬ life < 0 ∧ 4294967296 < life) := by omega
  clear h
  have hd : 4294967296 < life → decide (life ≤ 4294967296) = false := fun h => decide_eq_false (by omega)
  rcases hcase with h1 | ⟨h1, h2⟩ | ⟨h1, h2, h3⟩ | ⟨h1, h2, h3, h4⟩
  case' inr.inr.inr => replace hd := hd h4
  case' inl => clear hd
  case' inr.inl => clear hd
  case' inr.inr.inl => clear hd
  all_goals
    go_enter Try.func12, Try.ntmps12
    go_wp2_with fail
    refine (alive_any _).mono ?_
    rintro e w1 ⟨rfl, ho⟩
    have HO := Lib.hid ho
    clear ho
    go_wp2_with fail
    refine (HN.out _).mono ?_
    rintro e w2 ⟨rfl, rfl⟩
    go_wp2_with fail
    go_ret
    exact ⟨rfl, HO.out.below (Nat.le_refl _) (by simp)⟩

set_option maxRecDepth 100000 in
set_option maxHeartbeats 3200000 in
theorem bounds_off (space life at_ now : Int) (w : World) (h1 : 1 ≤ space) (h2 : space ≤ 4294967296) (h3 : 0 ≤ life) (h4 : life ≤ 4294967296) (h : at_ < 0 ∨ 1099511627776 < at_) :
    Calls Try.prog 12 #[.int .i64 space, .int .i64 life, .int .i64 at_, .int .i64 now] w fun e w' => e = .returned (.bool true) ∧ Below w.heap.size w w' := by
  have HN : Hid (∀ W, Calls Try.prog 46 #[.int .i64 space, .int .i64 life] W fun e w' => e = .returned (.tuple #[.pointer (some ⟨W.heap.size, 0, none⟩), .int .i64 0]) ∧ SI w' W.heap.size (W.heap.size + 1) [] space life [] ∧ Only [] W w' ∧ w'.heap.size = W.heap.size + 1 + 1) := fun W => newIdent_ok space life W h1 h2 h3 h4
  have HX : Hid (∀ W S V F, SI W S V F space life [] → Calls Try.prog 48 #[.pointer (some ⟨S, 0, none⟩), .int .i64 at_] W (SPost W S V F space life [] (.tuple #[.int .u32 0, .int .i64 1]))) := fun W S V F hs => next_no hs (ident_off (space := space) (life := life) h)
  have HY : Hid (∀ W S V F, SI W S V F space life [] → Calls Try.prog 48 #[.pointer (some ⟨S, 0, none⟩), .int .i64 0] W (SPost W S V F space life [0] (.tuple #[.int .u32 0, .int .i64 0]))) := fun W S V F hs => by
    have h9 := next_any (now := 0) hs
    obtain ⟨a, b, c⟩ := ident_first (life := life) h1 (Int.le_refl 0) (by decide)
    rw [a, b, c] at h9
    exact h9
  have hcase : (at_ < 0) ∨ (¬ at_ < 0 ∧ 1099511627776 < at_) := by omega
  clear h
  rcases hcase with h5 | ⟨h5, h6⟩
  all_goals
    go_enter Try.func12, Try.ntmps12
    go_wp2_with fail
    refine (alive_any _).mono ?_
    rintro e w1 ⟨rfl, ho⟩
    have HO := Lib.hid ho
    clear ho
    go_wp2_with fail
    refine (HN.out _).mono ?_
    rintro e w2 ⟨rfl, hs, ho, hz⟩
    have HS := Lib.hid hs
    have HO2 := Lib.hid ho
    clear hs ho hz
    go_wp2_with fail
    refine (HX.out _ _ _ _ HS.out).mono ?_
    rintro e w3 ⟨rfl, F3, hs, ho, hf⟩
    have HS3 := Lib.hid hs
    have HO3 := Lib.hid ho
    have HF3 := Lib.hid hf
    clear hs ho hf
    go_wp2_with fail
    refine (HY.out _ _ _ _ HS3.out).mono ?_
    rintro e w4 ⟨rfl, F4, hs, ho, hf⟩
    have HO4 := Lib.hid ho
    clear hs ho hf
    go_wp2_with fail
    go_ret
    have a1 := SI.call (Nat.le_refl _) (Nat.le_succ _) (by simp) HO2.out HO3.out HF3.out
    have a2 := a1.1.trans HO4.out (fun k hk => .inr (by
      rcases List.mem_cons.1 hk with rfl | hk
      · exact Nat.le_refl _
      · rcases List.mem_cons.1 hk with rfl | hk
        · exact Nat.le_succ _
        · exact a1.2 k hk))
    exact ⟨rfl, (HO.out.trans a2 (by simp)).below (Nat.le_refl _) (by simp)⟩

set_option maxRecDepth 100000 in
set_option maxHeartbeats 6400000 in
theorem bounds_on (space life at_ now : Int) (w : World) (h1 : 1 ≤ space) (h2 : space ≤ 4294967296) (h3 : 0 ≤ life) (h4 : life ≤ 4294967296) (h5 : 0 ≤ at_) (h6 : at_ ≤ 1099511627776) :
    Calls Try.prog 12 #[.int .i64 space, .int .i64 life, .int .i64 at_, .int .i64 now] w fun e w' => e = .returned (.bool true) ∧ Below w.heap.size w w' := by
  have HN : Hid (∀ W, Calls Try.prog 46 #[.int .i64 space, .int .i64 life] W fun e w' => e = .returned (.tuple #[.pointer (some ⟨W.heap.size, 0, none⟩), .int .i64 0]) ∧ SI w' W.heap.size (W.heap.size + 1) [] space life [] ∧ Only [] W w' ∧ w'.heap.size = W.heap.size + 1 + 1) := fun W => newIdent_ok space life W h1 h2 h3 h4
  have HX : Hid (∀ W S V F, SI W S V F space life [] → Calls Try.prog 48 #[.pointer (some ⟨S, 0, none⟩), .int .i64 at_] W (SPost W S V F space life [at_] (.tuple #[.int .u32 0, .int .i64 0]))) := fun W S V F hs => by
    have h9 := next_any (now := at_) hs
    obtain ⟨a, b, c⟩ := ident_first (life := life) h1 h5 h6
    rw [a, b, c] at h9
    exact h9
  have hcase : (now < at_) ∨ (¬ now < at_ ∧ 1099511627776 < now) ∨ (¬ now < at_ ∧ ¬ 1099511627776 < now ∧ 1 < space) ∨ (¬ now < at_ ∧ ¬ 1099511627776 < now ∧ space = 1 ∧ ¬ now - at_ < life) ∨ (¬ now < at_ ∧ ¬ 1099511627776 < now ∧ space = 1 ∧ now - at_ < life) := by omega
  obtain ⟨nn, ee, G', be, bv, HE, HY, HB⟩ : ∃ (nn ee : Int) (G' : List Int) (be bv : Int), Hid ((now < at_ ∨ 1099511627776 < now) ∧ ee = 1 ∧ be = 1 ∨ (at_ ≤ now ∧ now ≤ 1099511627776 ∧ be = 0 ∧ ((1 < space ∨ ¬ now - at_ < life) ∧ ee = 0 ∨ (space = 1 ∧ now - at_ < life) ∧ ee = 120))) ∧ Hid (∀ W S V F, SI W S V F space life [at_] → Calls Try.prog 48 #[.pointer (some ⟨S, 0, none⟩), .int .i64 now] W (SPost W S V F space life G' (.tuple #[.int .u32 nn, .int .i64 ee]))) ∧
      Hid (∀ W S V F, SI W S V F space life G' → Calls Try.prog 50 #[.pointer (some ⟨S, 0, none⟩), .int .i64 now] W (SPost W S V F space life G' (.tuple #[.int .i64 bv, .int .i64 be]))) := by
    refine ⟨_, _, _, _, _, ?_, fun W S V F hs => next_any hs, fun W S V F hs => busy_any hs⟩
    show _ ∨ _
    by_cases hoff : now < at_ ∨ 1099511627776 < now
    · left
      have hm := ident_second_off hoff
      simp [idErr, idGot, idBusyErr, hm, hoff]
    · right
      obtain ⟨hm, hf⟩ := ident_second (life := life) h1 (by omega : at_ ≤ now) (by omega)
      refine ⟨by omega, by omega, ?_, ?_⟩
      · have hm2 : idMay [at_, now] now = true := by simp [idMay, lastOf]; omega
        unfold idBusyErr idGot
        rw [if_pos hm]
        split <;> simp [hm, hm2]
      · by_cases hq : space = 1 ∧ now - at_ < life
        · right
          refine ⟨hq, ?_⟩
          unfold idErr
          rw [if_pos hm, if_pos (by rw [hf]; simp [hq])]
        · left
          refine ⟨by omega, ?_⟩
          have : (decide (space = 1) && decide (now - at_ < life)) = false := by simp; omega
          unfold idErr
          rw [if_pos hm, if_neg (by rw [hf, this]; simp)]
  have hE := HE.out
  have hcase2 : (now < at_ ∧ ee = 1 ∧ be = 1) ∨ (¬ now < at_ ∧ 1099511627776 < now ∧ ee = 1 ∧ be = 1) ∨ (¬ now < at_ ∧ ¬ 1099511627776 < now ∧ 1 < space ∧ ee = 0 ∧ be = 0) ∨ (¬ now < at_ ∧ ¬ 1099511627776 < now ∧ space = 1 ∧ ¬ now - at_ < life ∧ ee = 0 ∧ be = 0) ∨ (¬ now < at_ ∧ ¬ 1099511627776 < now ∧ space = 1 ∧ now - at_ < life ∧ ee = 120 ∧ be = 0) := by omega
  clear hcase hE HE
  have hd1 : now < at_ → decide (at_ ≤ now) = false := fun h => decide_eq_false (by omega)
  have hd2 : 1099511627776 < now → decide (now ≤ 1099511627776) = false := fun h => decide_eq_false (by omega)
  have hd3 : 1 < space → (space == 1) = false := fun h => by simp; omega
  have hd4 : ¬ now - at_ < life → decide (now - at_ < life) = false := fun h => decide_eq_false h
  have HD1 := Lib.hid hd1
  have HD2 := Lib.hid hd2
  have HD3 := Lib.hid hd3
  have HD4 := Lib.hid hd4
  clear hd1 hd2 hd3 hd4
  rcases hcase2 with ⟨h7, rfl, rfl⟩ | ⟨h7, h8, rfl, rfl⟩ | ⟨h7, h8, h9, rfl, rfl⟩ | ⟨h7, h8, rfl, h9, rfl, rfl⟩ | ⟨h7, h8, rfl, h9, rfl, rfl⟩
  case' inl => have hd := HD1.out h7
  case' inr.inl => have hd := HD2.out h8
  case' inr.inr.inl => have hd := HD3.out h9
  case' inr.inr.inr.inl => have hd := HD4.out h9
  all_goals
    go_enter Try.func12, Try.ntmps12
    go_wp2_with fail
    refine (alive_any _).mono ?_
    rintro e w1 ⟨rfl, ho⟩
    have HO := Lib.hid ho
    clear ho
    go_wp2_with fail
    refine (HN.out _).mono ?_
    rintro e w2 ⟨rfl, hs, ho, hz⟩
    have HS := Lib.hid hs
    have HO2 := Lib.hid ho
    clear hs ho hz
    go_wp2_with fail
    refine (HX.out _ _ _ _ HS.out).mono ?_
    rintro e w3 ⟨rfl, F3, hs, ho, hf⟩
    have HS3 := Lib.hid hs
    have HO3 := Lib.hid ho
    have HF3 := Lib.hid hf
    clear hs ho hf
    go_wp2_with fail
    refine (HY.out _ _ _ _ HS3.out).mono ?_
    rintro e w4 ⟨rfl, F4, hs, ho, hf⟩
    have HS4 := Lib.hid hs
    have HO4 := Lib.hid ho
    have HF4 := Lib.hid hf
    clear hs ho hf
    go_wp2_with fail
    refine (HB.out _ _ _ _ HS4.out).mono ?_
    rintro e w5 ⟨rfl, F5, hs, ho, hf⟩
    have HO5 := Lib.hid ho
    clear hs ho hf
    go_wp2_with fail
    go_ret
    have a1 := SI.call (Nat.le_refl _) (Nat.le_succ _) (by simp) HO2.out HO3.out HF3.out
    have a2 := SI.call (Nat.le_refl _) (Nat.le_succ _) a1.2 a1.1 HO4.out HF4.out
    have a3 := SI.call (F' := []) (Nat.le_refl _) (Nat.le_succ _) a2.2 a2.1 HO5.out (by simp)
    exact ⟨rfl, (HO.out.trans a3.1 (by simp)).below (Nat.le_refl _) (by simp)⟩

theorem identBounds_walk (space life at_ now : Int) (w : World) (b0 : -9223372036854775808 ≤ space ∧ space ≤ 9223372036854775807) (b1 : -9223372036854775808 ≤ life ∧ life ≤ 9223372036854775807) (b2 : -9223372036854775808 ≤ at_ ∧ at_ ≤ 9223372036854775807) (b3 : -9223372036854775808 ≤ now ∧ now ≤ 9223372036854775807) :
    Calls Try.prog 12 #[.int .i64 space, .int .i64 life, .int .i64 at_, .int .i64 now] w fun e w' => e = .returned (.bool true) ∧ Below w.heap.size w w' := by
  by_cases h : space < 1 ∨ 4294967296 < space ∨ life < 0 ∨ 4294967296 < life
  · exact bounds_no space life at_ now w h
  · by_cases h' : at_ < 0 ∨ 1099511627776 < at_
    · exact bounds_off space life at_ now w (by omega) (by omega) (by omega) (by omega) h'
    · exact bounds_on space life at_ now w (by omega) (by omega) (by omega) (by omega) (by omega) (by omega)
end Go.Proofs.Ytjlnkfbhbiinoaa
