/-
  alive(): the walk.
-/
import Derived.Test.YtjlnkfbhbiinoaaIdh
import Derived.Laws.EntriesVeiled
namespace Go.Proofs.Ytjlnkfbhbiinoaa
open Go.RowKit
set_option linter.unusedVariables false
set_option linter.unusedSimpArgs false
attribute [local go_sem ↓] Go.wp_at_zero Go.wp_at_succ

/-- The state of the loop: i rounds are over; the arrays lie in two blocks of the call's own. -/
structure AliveAt (w wr : World) (B1 B2 : Nat) (F : List Nat) (i : Nat) : Prop where
  s : SI wr w.heap.size (w.heap.size + 1) F 3 10 (heldL i)
  at_ : Blk wr B1 130 (atL.map (Value.int .i64)).toArray
  want : Blk wr B2 131 (wantL.map (Value.int .i64)).toArray
  o : Only [] w wr
  f : ∀ k ∈ F, w.heap.size ≤ k
def AliveRel (w : World) (B1 B2 : Nat) (v5 : Value) (wr : World) : Prop :=
  ∃ (i : Nat) (F : List Nat), i ≤ 10 ∧ v5 = .int .i64 i ∧ Hid (AliveAt w wr B1 B2 F i)

set_option maxRecDepth 100000 in
set_option maxHeartbeats 3200000 in
theorem alive_any (w : World) : Calls Try.prog 45 #[] w fun e w' => e = .returned (.bool true) ∧ Only [] w w' := by
  go_enter Try.func45, Try.ntmps45
  go_wp2_with fail
  refine (newIdent_ok 3 10 _ (by decide) (by decide) (by decide) (by decide)).mono ?_
  rintro e w1 ⟨rfl, hs, ho, hz⟩
  go_wp2_with fail
  have HS1 := Lib.hid hs
  have HO1 := Lib.hid ho
  have HZ := Lib.hid hz
  have HIN : Hid (AliveAt w ((w1.alloc (.cells (atL.map (Value.int .i64)).toArray 130)).alloc (.cells (wantL.map (Value.int .i64)).toArray 131)) w1.heap.size (w1.heap.size + 1) [] 0) := by
    refine ⟨hs.only (((Only.refl [] w1).alloc _).alloc _) (by simp), (Blk.new w1 _ _).alloc _, ?_, (ho.alloc _).alloc _, by simp⟩
    have := Blk.new (w1.alloc (.cells (atL.map (Value.int .i64)).toArray 130)) 131 (wantL.map (Value.int .i64)).toArray
    rw [World.size_alloc] at this
    exact this
  rw [HZ.out] at HIN
  clear hs ho HS1
  go_loopw [5] (fun v5 wr => AliveRel w (w.heap.size + 1 + 1) (w.heap.size + 1 + 1 + 1) v5 wr) (fun i _ => 10 - (intOf i).toNat)
  case atStart => exact ⟨0, [], by omega, rfl, HIN⟩
  case round =>
    clear HIN hz HZ HO1
    obtain ⟨i, F, hi, rfl, HI⟩ := hrel
    by_cases hlt : i < 10
    · have e1 : wr.cell? ⟨w.heap.size + 1 + 1, i, none⟩ = some (.int .i64 (atL.getD i 0)) := by
        rw [HI.out.at_.cell i]
        have : i < atL.length := hlt
        simp [this, List.getD]
      have e2 : wr.cell? ⟨w.heap.size + 1 + 1 + 1, i, none⟩ = some (.int .i64 (wantL.getD i 0)) := by
        rw [HI.out.want.cell i]
        have : i < wantL.length := hlt
        simp [this, List.getD]
      have HN := Lib.hid (heldL_next i hlt)
      have HL := Lib.hid (wantL_le i hlt)
      have HA := Lib.hid (heldL_answer i hlt)
      have HX : Hid (∀ W, SI W w.heap.size (w.heap.size + 1) F 3 10 (heldL i) → Calls Try.prog 48 #[.pointer (some ⟨w.heap.size, 0, none⟩), .int .i64 (atL.getD i 0)] W (SPost W w.heap.size (w.heap.size + 1) F 3 10 (idGot 3 10 (heldL i) (atL.getD i 0)) (.tuple #[.int .u32 (idNum 3 10 (heldL i) (atL.getD i 0)), .int .i64 (idErr 3 10 (heldL i) (atL.getD i 0))]))) := fun W h => next_any h
      generalize idNum 3 10 (heldL i) (atL.getD i 0) = nn at *
      generalize idErr 3 10 (heldL i) (atL.getD i 0) = ee at *
      generalize atL.getD i 0 = tt at *
      generalize hwt : wantL.getD i 0 = wt at *
      go_wp2_with fail
      refine (HX.out _ HI.out.s).mono ?_
      rintro e W2 ⟨rfl, F2, s2, o2, f2⟩
      rw [← HN.out] at s2
      have n1 := HI.out.s.ne_blk HI.out.at_ (by decide)
      have n2 := HI.out.s.ne_blk HI.out.want (by decide)
      have HI2 : Hid (AliveAt w W2 (w.heap.size + 1 + 1) (w.heap.size + 1 + 1 + 1) F2 (i + 1)) := by
        refine ⟨s2, HI.out.at_.only o2 (by simp [n1]; omega), HI.out.want.only o2 (by simp [n2]; omega), HI.out.o.trans o2 ?_, ?_⟩
        · intro k hk
          right
          rcases List.mem_cons.1 hk with rfl | hk
          · exact Nat.le_refl _
          · rcases List.mem_cons.1 hk with rfl | hk
            · omega
            · exact HI.out.f k hk
        · intro k hk
          rcases f2 k hk with h | h
          · exact HI.out.f k h
          · exact Nat.le_trans HI.out.o.size h
      have e2 : W2.cell? ⟨w.heap.size + 1 + 1 + 1, i, none⟩ = some (.int .i64 wt) := by
        rw [HI2.out.want.cell i, ← hwt]
        have : i < wantL.length := hlt
        simp [this, List.getD]
      obtain ⟨l1, l2⟩ := HL.out
      have HI3 := HI2
      clear n1 n2 s2 o2 f2 e1 HX HN hwt HI2
      rcases HA.out with ⟨h1, rfl⟩ | ⟨h1, rfl, rfl⟩
      · clear HA
        go_wp2_with fail
        go_roundw
        case rel => exact ⟨i + 1, F2, by omega, by go_num, HI3⟩
        case measure => simp [intOf]; omega
      · clear HA
        go_wp2_with fail
        go_roundw
        case rel => exact ⟨i + 1, F2, by omega, by go_num, HI3⟩
        case measure => simp [intOf]; omega
    · obtain rfl : i = 10 := by omega
      have hb := heldL_end
      have HB : Hid (∀ W, SI W w.heap.size (w.heap.size + 1) F 3 10 (heldL 10) → Calls Try.prog 50 #[.pointer (some ⟨w.heap.size, 0, none⟩), .int .i64 14] W (SPost W w.heap.size (w.heap.size + 1) F 3 10 (heldL 10) (.tuple #[.int .i64 3, .int .i64 0]))) := fun W h => by
        have := busy_any (now := 14) h
        rw [hb.1, hb.2.1] at this
        exact this
      have HX : Hid (∀ W F, SI W w.heap.size (w.heap.size + 1) F 3 10 (heldL 10) → Calls Try.prog 48 #[.pointer (some ⟨w.heap.size, 0, none⟩), .int .i64 13] W (SPost W w.heap.size (w.heap.size + 1) F 3 10 (heldL 10) (.tuple #[.int .u32 0, .int .i64 1]))) := fun W F h => next_no h (by decide)
      clear hb
      go_wp2_with fail
      refine (HB.out _ HI.out.s).mono ?_
      rintro e W2 ⟨rfl, F2, s2, o2, f2⟩
      have S2 := Lib.hid s2
      have O2 := Lib.hid o2
      have G2 := Lib.hid f2
      clear s2 o2 f2
      go_wp2_with fail
      refine (HX.out _ _ S2.out).mono ?_
      rintro e W3 ⟨rfl, F3, s3, o3, f3⟩
      have O3 := Lib.hid o3
      clear s3 o3 f3
      go_wp2_with fail
      go_ret
      refine ⟨rfl, (HI.out.o.trans O2.out ?_).trans O3.out ?_⟩
      · intro k hk
        right
        rcases List.mem_cons.1 hk with rfl | hk
        · exact Nat.le_refl _
        · rcases List.mem_cons.1 hk with rfl | hk
          · omega
          · exact HI.out.f k hk
      · intro k hk
        right
        rcases List.mem_cons.1 hk with rfl | hk
        · exact Nat.le_refl _
        · rcases List.mem_cons.1 hk with rfl | hk
          · omega
          · rcases G2.out k hk with h | h
            · exact HI.out.f k h
            · exact Nat.le_trans HI.out.o.size h
end Go.Proofs.Ytjlnkfbhbiinoaa
