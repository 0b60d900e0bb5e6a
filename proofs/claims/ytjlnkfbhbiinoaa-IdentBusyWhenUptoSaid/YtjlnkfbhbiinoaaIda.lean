/-
  The source of identifications: how it lies in memory; the library's binary search; the place of the first number that is busy.
-/
import Derived.Test.YtjlnkfbhbiinoaaRows
import Derived.Test.YtjlnkfbhbiinoaaSep
import Derived.Shelf.Abstract
import Derived.BigQuiet
import Derived.Deep.QuietTactic
import Derived.Deep.RegionHeld3
import Derived.Deep.DrawnRows
import Derived.StillTailTactics
import Derived.Deep.RegionLaw
namespace Go.Proofs.Ytjlnkfbhbiinoaa
open Go.RowKit
set_option linter.unusedVariables false
set_option linter.unusedSimpArgs false
attribute [local go_sem ↓] Go.wp_at_zero Go.wp_at_succ

/-- sort.Search: any function that tells of each place below n whether it is so, the answers rising. -/
def SearchPost (n : Nat) (p : Nat → Bool) (w : World) : Ending → World → Prop := fun e w' =>
  ∃ K : Nat, e = .returned (.int .i64 K) ∧ K ≤ n ∧ (∀ t, t < K → p t = false) ∧ (∀ t, K ≤ t → t < n → p t = true) ∧ Only [] w w'

set_option maxRecDepth 100000 in
set_option maxHeartbeats 1600000 in
theorem search_any (g : FuncId) (cb : Array Value) (n : Nat) (p : Nat → Bool) (w : World) (eg : ∀ args w, (callFunc g args).run Try.prog w = .ok (.enter g args) w) (hn : n ≤ 4611686018427387904)
    (hp : ∀ (W : World) (i : Nat), Only [] w W → i < n → Calls Try.prog g (#[.int .i64 i] ++ cb) W fun e w' => e = .returned (.bool (p i)) ∧ Only [] W w')
    (hm : ∀ a b, a ≤ b → b < n → p a = true → p b = true) :
    Calls Try.prog 59 #[.int .i64 n, .func (.func g) #[] cb] w (SearchPost n p w) := by
  have HP := Lib.hid hp; clear hp
  have HM := Lib.hid hm; clear hm
  go_enter Try.func59, Try.ntmps59
  go_wp2_with fail
  go_loopw [5, 6] (fun a b wr => ∃ lo hi : Nat, a = .int .i64 lo ∧ b = .int .i64 hi ∧ lo ≤ hi ∧ hi ≤ n ∧ Only [] w wr ∧ Hid ((∀ t, t < lo → p t = false) ∧ (∀ t, hi ≤ t → t < n → p t = true))) (fun a b _ => (intOf b).toNat - (intOf a).toNat)
  case atStart => exact ⟨0, n, rfl, rfl, Nat.zero_le _, Nat.le_refl _, Only.refl _ _, fun t ht => absurd ht (Nat.not_lt_zero _), fun t h1 h2 => by omega⟩
  case round =>
    obtain ⟨lo, hi, rfl, rfl, hlh, hin, ho, HI⟩ := hrel
    have HO := Lib.hid ho; clear ho
    by_cases hlt : lo < hi
    · have hc := HP.out wr ((lo + hi) / 2) HO.out (by omega)
      rw [show (((lo + hi) / 2 : Nat) : Int) = ((lo : Int) + (hi : Int)) / 2 by omega] at hc
      have HC := Lib.hid hc; clear hc
      cases hpm : p ((lo + hi) / 2) <;> rw [hpm] at HC
      · have HPM := Lib.hid hpm
        clear hpm
        go_wp2_with (go_at_fn g; refine HC.out.mono ?_; rintro e w' ⟨rfl, ho'⟩; have HO' := Lib.hid ho'; clear ho')
        go_roundw
        case measure => simp [intOf]; omega
        case rel =>
          refine ⟨(lo + hi) / 2 + 1, hi, ?_, rfl, by omega, hin, HO.out.trans HO'.out (by simp), ?_, HI.out.2⟩
          · rw [show ((lo : Int) + (hi : Int)) / 2 + 1 = (((lo + hi) / 2 + 1 : Nat) : Int) by omega]
          · intro t ht
            cases h : p t with
            | false => rfl
            | true => have := HM.out t ((lo + hi) / 2) (by omega) (by omega) h; rw [HPM.out] at this; cases this
      · have HPM := Lib.hid hpm
        clear hpm
        go_wp2_with (go_at_fn g; refine HC.out.mono ?_; rintro e w' ⟨rfl, ho'⟩; have HO' := Lib.hid ho'; clear ho')
        go_roundw
        case measure => simp [intOf]; omega
        case rel =>
          refine ⟨lo, (lo + hi) / 2, rfl, ?_, by omega, by omega, HO.out.trans HO'.out (by simp), HI.out.1, ?_⟩
          · rw [show ((lo : Int) + (hi : Int)) / 2 = (((lo + hi) / 2 : Nat) : Int) by omega]
          · intro t ht htn
            exact HM.out ((lo + hi) / 2) t ht htn HPM.out
    · obtain rfl : hi = lo := by omega
      go_wp2_with fail
      go_ret
      exact ⟨hi, rfl, hin, HI.out.1, HI.out.2, HO.out⟩

/-- A source in memory: block S the source, block V the variable that its clock's rule holds, the ticks in the footprint F. -/
structure SRep (w : World) (S V : Nat) (F : List Nat) (space next last life : Int) (A : Option Addr) (n c head : Nat) (xs : List Int) : Prop where
  b : Blk w S 134 #[.int .i64 space, .int .i64 next, .int .i64 last, .int .i64 life, .slice A n c, .int .i64 head, .func (.func 56) #[] #[.pointer (some ⟨V, 0, none⟩)]]
  v : Blk w V 77 #[.pointer (some ⟨S, 0, none⟩)]
  r : Row w 2 1 F A n c (xs.map (Value.int .i64))
  len : xs.length = n
  hd : head ≤ n
  big : n ≤ 1099511627776
theorem SRep.only {w w' : World} {S V : Nat} {F G : List Nat} {space next last life : Int} {A : Option Addr} {n c head : Nat} {xs : List Int} (h : SRep w S V F space next last life A n c head xs) (ho : Only G w w') (hd : ∀ k ∈ S :: V :: F, k ∉ G) : SRep w' S V F space next last life A n c head xs :=
  ⟨h.b.only ho (hd S (by simp)), h.v.only ho (hd V (by simp)), h.r.only ho (fun k hk => hd k (by simp [hk])), h.len, h.hd, h.big⟩

set_option maxRecDepth 100000 in
set_option maxHeartbeats 800000 in
theorem may_any (S V : Nat) (last now : Int) (cs : Array Value) (w : World) (hv : Blk w V 77 #[.pointer (some ⟨S, 0, none⟩)]) (hl : w.cell? ⟨S, 2, none⟩ = some (.int .i64 last)) :
    Calls Try.prog 56 #[.int .i64 now, .pointer (some ⟨V, 0, none⟩)] w fun e w' => e = .returned (.bool (decide (last ≤ now) && decide (now ≤ 1099511627776))) ∧ w = w' := by
  have v0 : w.cell? ⟨V, 0, none⟩ = some (.pointer (some ⟨S, 0, none⟩)) := hv.cell 0
  have HV := Lib.hid hv; clear hv
  by_cases h1 : last ≤ now
  · go_enter Try.func56, Try.ntmps56
    go_wp2_with fail
    go_ret
    exact ⟨by simp [h1], rfl⟩
  · have hd : decide (last ≤ now) = false := by simp; omega
    go_enter Try.func56, Try.ntmps56
    go_wp2_with fail
    go_ret
    exact ⟨by simp [hd], rfl⟩
end Go.Proofs.Ytjlnkfbhbiinoaa
