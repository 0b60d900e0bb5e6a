/-
  QueuePlays: every script of Push and Pop on a queue of numbers, each answer, Len and Bytes behind each: the law's own walk.
-/
import Derived.Test.YtjlnkfbhbiinoaaQs
import Derived.Test.YtjlnkfbhbiinoaaQnews
import Derived.Test.YtjlnkfbhbiinoaaOps19
import Derived.Deep.RegionHeld3
import Derived.Deep.DrawnRows
namespace Go.Proofs.Ytjlnkfbhbiinoaa
open Go.RowKit
set_option linter.unusedVariables false
set_option linter.unusedSimpArgs false
attribute [local go_sem ↓] Go.wp_at_zero Go.wp_at_succ

theorem still_left {P : Program} {f : FuncId} {args : Array Value} {w : World} {n : Nat} {v : Value}
    (h : Calls P f args (w.drewN n) fun e w' => e = .returned v ∧ w.drewN n = w') : Calls P f args (w.drewN n) fun e w'' => e = .returned v ∧ ∃ m, w'' = w.drewN m :=
  h.mono fun _ _ ⟨he, hm⟩ => ⟨he, n, hm.symm⟩

/-- The state of the law's loop: both queues hold l, in memory of the call's own. -/
def PlaysInv (w wr : World) (count bytes : Int) (Q R : Nat) : Prop :=
  ∃ F H l, QInt wr Q F 14 count bytes l ∧ RI wr R H count bytes l ∧ (∀ k ∈ Q :: F, k ∉ R :: H) ∧ Only [] w wr ∧ (∀ k ∈ Q :: F, w.heap.size ≤ k) ∧ (∀ k ∈ R :: H, w.heap.size ≤ k)

set_option maxRecDepth 100000 in
set_option maxHeartbeats 3200000 in
theorem queuePlays_yes (count bytes : Int) (A : Option Addr) (n c : Nat) (z : List (Bool × Int)) (w : World) (h0 : 0 ≤ count) (h1 : count ≤ 64) (h2 : 0 ≤ bytes) (h3 : bytes ≤ 9223372036854775807)
    (hz : z.length = n) (hA : Arg w 2 A n (z.flatMap encOp19)) (hn : n ≤ 9223372036854775807) :
    Calls Try.prog 4 #[.int .i64 count, .int .i64 bytes, .slice A n c] w fun e w' => e = .returned (.bool true) ∧ Only [] w w' := by
  have HA := Lib.hid hA; clear hA
  have HZ := Lib.hid hz; clear hz
  go_enter Try.func4, Try.ntmps4
  go_wp2_with fail
  refine (newInt_ok count bytes _ _ h0 h1 h2).mono ?_
  rintro e w1 ⟨rfl, hw⟩
  have q0 : QInt w1 w.heap.size [] 14 count bytes [] := by rw [← hw]; exact QI.new w _ count bytes h0 h1 h2 h3
  have HO0 := Lib.hid (show Only [] w w1 by rw [← hw]; exact (Only.refl [] w).alloc _)
  have hs : w.heap.size < w1.heap.size := q0.lt w.heap.size (by simp)
  have HQ0 := Lib.hid q0
  clear hw q0
  go_wp2_with fail
  refine (known_any _).mono ?_
  rintro e w2 ⟨rfl, ho⟩
  have HQ1 := Lib.hid (HQ0.out.only ho (by simp))
  have HO1 := Lib.hid (HO0.out.trans ho (by simp))
  have hs2 : w.heap.size < w2.heap.size := by have := ho.size; omega
  clear ho
  go_wp2_with fail
  refine (may_yes count bytes _ h0 h1 h2).mono ?_
  rintro e w' ⟨rfl, rfl⟩
  go_wp2_with fail
  have hinv : PlaysInv w (w2.alloc (.cells #[.int .i64 count, .int .i64 bytes, .slice none 0 0, .slice none 0 0] 43)) count bytes w.heap.size w2.heap.size := by
    refine ⟨[], [], [], HQ1.out.only ((Only.refl [] w2).alloc _) (by simp), ?_, ?_, HO1.out.alloc _, by simp, by simp; omega⟩
    · exact ⟨⟨[], [], none, 0, none, 0, rfl, by simp, Blk.new w2 _ _, Row.nil _ _ _ _, Row.nil _ _ _ _⟩, h0, h1, by simpa using h0, by simp, by rw [qsum_nil]; exact h2, h3⟩
    · intro k hk hk2; simp at hk hk2; omega
  have HINV := Lib.hid hinv; clear hinv
  generalize w2.alloc (.cells #[.int .i64 count, .int .i64 bytes, .slice none 0 0, .slice none 0 0] 43) = W at *
  generalize hR : w2.heap.size = R at *
  clear HQ0 HO0 HQ1 HO1 hR hs hs2
  generalize hQ : w.heap.size = Q at *
  have HQE := Lib.hid hQ; clear hQ
  go_loopw [10] (fun i wr => ∃ k : Nat, k ≤ n ∧ i = .int .i64 k ∧ PlaysInv w wr count bytes Q R) (fun i _ => n - (intOf i).toNat)
  case atStart => exact ⟨0, Nat.zero_le _, rfl, HINV.out⟩
  case round =>
    clear HINV
    obtain ⟨k, hk, rfl, F, H, l, q1, r1, hd, ho, hq, hr⟩ := hrel
    have HQ := Lib.hid q1; clear q1
    have HR := Lib.hid r1; clear r1
    have HD := Lib.hid hd; clear hd
    have HO := Lib.hid ho; clear ho
    have HQB := Lib.hid hq; clear hq
    have HRB := Lib.hid hr; clear hr
    by_cases hlt : k < n
    · obtain ⟨b, off, rfl, hb, hc⟩ := HA.out.2 (by omega)
      obtain ⟨z0, z1⟩ := encOp19_at z k (by rw [HZ.out]; exact hlt)
      have e0 : wr.cell? ⟨b, off + k * 2, none⟩ = some (.bool (z[k]'(by rw [HZ.out]; exact hlt)).1) := HO.out.cell (hc _ _ z0) (by simp)
      have e1 : wr.cell? ⟨b, off + k * 2 + 1, none⟩ = some (.int .i64 (z[k]'(by rw [HZ.out]; exact hlt)).2) := HO.out.cell (hc _ _ z1) (by simp)
      clear hc z0 z1 hb
      generalize (z[k]'(by rw [HZ.out]; exact hlt)).1 = p at *
      generalize (z[k]'(by rw [HZ.out]; exact hlt)).2 = x at *
      cases p
      · have HX := Lib.hid (Blk.new wr 45 #[.bool false, .int .i64 x])
        have HOa := Lib.hid ((Only.refl [] wr).alloc (.cells #[.bool false, .int .i64 x] 45))
        have HSa := Lib.hid (World.size_alloc wr (.cells #[.bool false, .int .i64 x] 45))
        go_wp2_with fail
        generalize wr.alloc (.cells #[.bool false, .int .i64 x] 45) = W1 at *
        have HQ1 := Lib.hid (HQ.out.only HOa.out (by simp))
        have HR1 := Lib.hid (HR.out.only HOa.out (by simp))
        obtain ⟨a, ha⟩ : ∃ a, qhead l 0 = a := ⟨_, rfl⟩
        have HH := Lib.hid ha
        clear ha
        refine (popInt_any Q F _ count bytes l a _ HH.out HQ1.out).mono ?_
        rintro e W2 ⟨rfl, F2, q2, o2, f2⟩
        have HQ2 := Lib.hid q2
        have HR2 := Lib.hid (HR1.out.only o2 (fun q hq hm => HD.out q hm hq))
        have HO2 := Lib.hid o2
        have HF2 := Lib.hid f2
        clear q2 o2 f2
        go_wp2_with fail
        refine (popRef_any R H count bytes l a _ HH.out HR2.out).mono ?_
        rintro e W3 ⟨rfl, H3, r3, o3, f3⟩
        have HR3 := Lib.hid r3
        have HO3 := Lib.hid o3
        have HF3 := Lib.hid f3
        clear r3 o3 f3
        generalize hqh : qhas l = qh at *
        clear hqh
        have hne : (a != a) = false := by simp
        have hnb : (qh != qh) = false := by simp
        have hF2 : ∀ q ∈ Q :: F2, q ∉ R :: H3 := by
          intro q hq hm
          have hq2 : q ∈ Q :: F ∨ W1.heap.size ≤ q := by
            rcases List.mem_cons.1 hq with rfl | hq
            · exact .inl (by simp)
            · rcases HF2.out q hq with h | h
              · exact .inl (by simp [h])
              · exact .inr h
          have hqlt := HQ2.out.lt q hq
          have hm2 : q ∈ R :: H := by
            rcases List.mem_cons.1 hm with rfl | hm
            · simp
            · rcases HF3.out q hm with h | h
              · simp [h]
              · omega
          rcases hq2 with h | h
          · exact HD.out q h hm2
          · have := HR1.out.lt q hm2
            omega
        have HQ3 := Lib.hid (HQ2.out.only HO3.out (fun q hq hm => by
          have hqlt := HQ2.out.lt q hq
          rcases List.mem_cons.1 hq with rfl | hq2
          · exact HD.out q (by simp) hm
          · rcases HF2.out q hq2 with h | h
            · exact HD.out q (by simp [h]) hm
            · have := HR1.out.lt q hm
              omega))
        have HINV : Hid (∀ m, PlaysInv w (W3.drewN m) count bytes Q R) := by
          intro m
          have hw1 : w.heap.size ≤ W1.heap.size := by have := HO.out.size; have := HSa.out; omega
          refine ⟨F2, H3, l.tail, HQ3.out.drewN m, HR3.out.drewN m, hF2, (((HO.out.trans HOa.out (by simp)).trans HO2.out ?_).trans HO3.out ?_).drewN m, ?_, ?_⟩
          · intro q hq; exact .inr (HQB.out q hq)
          · intro q hq; exact .inr (HRB.out q hq)
          · intro q hq
            rcases List.mem_cons.1 hq with rfl | hq
            · exact HQB.out q (by simp)
            · rcases HF2.out q hq with h | h
              · exact HQB.out q (by simp [h])
              · exact Nat.le_trans hw1 h
          · intro q hq
            rcases List.mem_cons.1 hq with rfl | hq
            · exact HRB.out q (by simp)
            · rcases HF3.out q hq with h | h
              · exact HRB.out q (by simp [h])
              · have := HO2.out.size
                omega
        clear hF2 HOa HSa HX HQ1 HR1 HQ2 HR2 HO2 HO3 HF2 HF3
        have hr3 := HR3.out.rep
        obtain ⟨F9, G9, A1, c1, A2, c2, _, _, hb9, _, _⟩ := hr3
        have d2 := hb9.cell 2
        simp only [List.getElem?_toArray, List.getElem?_cons_succ, List.getElem?_cons_zero] at d2
        clear hb9
        generalize l.tail = l3 at *
        have hg : (((l3.length : Nat) : Int) != ((l3.length : Nat) : Int)) = false := by simp
        go_wp2_with fail
        go_quiet ((first | (go_at_call 18; exact still_left (lenInt_any _ _ _ _ _ _ _ (HQ3.out.drewN _))) | (go_at_call 19; exact still_left (bytesInt_any _ _ _ _ _ _ _ (HQ3.out.drewN _))) | (go_at_call 24; exact still_left (bytesRef_any _ _ _ _ _ _ (HR3.out.drewN _)))))
        go_wp2_with fail
        go_roundw
        case rel => exact ⟨k + 1, by omega, by go_num, HINV.out nq⟩
        case measure => simp [intOf]; omega
      · have HX := Lib.hid (Blk.new wr 45 #[.bool true, .int .i64 x])
        have HOa := Lib.hid ((Only.refl [] wr).alloc (.cells #[.bool true, .int .i64 x] 45))
        have HSa := Lib.hid (World.size_alloc wr (.cells #[.bool true, .int .i64 x] 45))
        go_wp2_with fail
        generalize wr.alloc (.cells #[.bool true, .int .i64 x] 45) = W1 at *
        have x1 := HX.out.cell 1
        simp only [List.getElem?_toArray, List.getElem?_cons_succ, List.getElem?_cons_zero] at x1
        have HQ1 := Lib.hid (HQ.out.only HOa.out.drew (by simp))
        have HR1 := Lib.hid (HR.out.only HOa.out.drew (by simp))
        have HXn := Lib.hid (show ∀ q ∈ Q :: F, q ≠ wr.heap.size from fun q hq he => by have := HQ.out.lt q hq; omega)
        have HXr := Lib.hid (show ∀ q ∈ R :: H, q ≠ wr.heap.size from fun q hq he => by have := HR.out.lt q hq; omega)
        go_region_held3 (fun w' => w'.cell? ⟨wr.heap.size, 1, none⟩ = some (.int .i64 x)) (first | go_keep | assumption) (first
          | (go_at_call 21; refine (pushInt_any Q F _ count bytes x l x _ own_enters (own_any x) HQ1.out).mono ?_; rintro e W2 ⟨rfl, F2, q2, o2, f2⟩; have x2 := o2.cell (p := ⟨wr.heap.size, 1, none⟩) (show W1.drew.cell? ⟨wr.heap.size, 1, none⟩ = _ from x1) (fun hm => HXn.out _ hm rfl); have HQ2 := Lib.hid q2; have HR2 := Lib.hid (HR1.out.only o2 (fun q hq hm => HD.out q hm hq)); have HO2 := Lib.hid o2; have HF2 := Lib.hid f2; clear q2 o2 f2)
          | (go_at_call 22; refine (pushRef_any R H count bytes x x l _ HR2.out).mono ?_; rintro e W3 ⟨rfl, H3, r3, o3, f3⟩; have x3 := o3.cell x2 (fun hm => HXr.out _ hm rfl); have HR3 := Lib.hid r3; have HO3 := Lib.hid o3; have HF3 := Lib.hid f3; clear r3 o3 f3))
        have hF2 : ∀ q ∈ Q :: F2, q ∉ R :: H3 := by
          intro q hq hm
          have hq2 : q ∈ Q :: F ∨ W1.heap.size ≤ q := by
            rcases List.mem_cons.1 hq with rfl | hq
            · exact .inl (by simp)
            · rcases HF2.out q hq with h | h
              · exact .inl (by simp [h])
              · exact .inr h
          have hqlt := HQ2.out.lt q hq
          have hm2 : q ∈ R :: H := by
            rcases List.mem_cons.1 hm with rfl | hm
            · simp
            · rcases HF3.out q hm with h | h
              · simp [h]
              · omega
          rcases hq2 with h | h
          · exact HD.out q h hm2
          · have := HR1.out.lt q hm2
            have : W1.drew.heap.size = W1.heap.size := rfl
            omega
        have HQ3 := Lib.hid (HQ2.out.only HO3.out (fun q hq hm => by
          have hqlt := HQ2.out.lt q hq
          rcases List.mem_cons.1 hq with rfl | hq2
          · exact HD.out q (by simp) hm
          · rcases HF2.out q hq2 with h | h
            · exact HD.out q (by simp [h]) hm
            · have := HR1.out.lt q hm
              have : W1.drew.heap.size = W1.heap.size := rfl
              omega))
        have HINV : Hid (∀ m, PlaysInv w (W3.drewN m) count bytes Q R) := by
          intro m
          have hw1 : w.heap.size ≤ W1.heap.size := by have := HO.out.size; have := HSa.out; omega
          refine ⟨F2, H3, qpush count bytes l x x, HQ3.out.drewN m, HR3.out.drewN m, hF2, (((HO.out.trans HOa.out.drew (by simp)).trans HO2.out ?_).trans HO3.out ?_).drewN m, ?_, ?_⟩
          · intro q hq; exact .inr (HQB.out q hq)
          · intro q hq; exact .inr (HRB.out q hq)
          · intro q hq
            rcases List.mem_cons.1 hq with rfl | hq
            · exact HQB.out q (by simp)
            · rcases HF2.out q hq with h | h
              · exact HQB.out q (by simp [h])
              · exact Nat.le_trans hw1 h
          · intro q hq
            rcases List.mem_cons.1 hq with rfl | hq
            · exact HRB.out q (by simp)
            · rcases HF3.out q hq with h | h
              · exact HRB.out q (by simp [h])
              · have := HO2.out.size
                have : W1.drew.heap.size = W1.heap.size := rfl
                omega
        clear hF2 x1 x2 x3 HOa HSa HX HXn HXr HQ1 HR1 HQ2 HR2 HO2 HO3 HF2 HF3
        have hr3 := HR3.out.rep
        obtain ⟨F9, G9, A1, c1, A2, c2, _, _, hb9, _, _⟩ := hr3
        have d2 := hb9.cell 2
        simp only [List.getElem?_toArray, List.getElem?_cons_succ, List.getElem?_cons_zero] at d2
        clear hb9
        generalize qpush count bytes l x x = l3 at *
        have hg : (((l3.length : Nat) : Int) != ((l3.length : Nat) : Int)) = false := by simp
        go_wp2_with fail
        go_quiet ((first | (go_at_call 18; exact still_left (lenInt_any _ _ _ _ _ _ _ (HQ3.out.drewN _))) | (go_at_call 19; exact still_left (bytesInt_any _ _ _ _ _ _ _ (HQ3.out.drewN _))) | (go_at_call 24; exact still_left (bytesRef_any _ _ _ _ _ _ (HR3.out.drewN _)))))
        go_wp2_with fail
        go_roundw
        case rel => exact ⟨k + 1, by omega, by go_num, HINV.out nq⟩
        case measure => simp [intOf]; omega
    · go_wp2_with fail
      go_ret
      exact ⟨rfl, HO.out⟩

set_option maxRecDepth 100000 in
set_option maxHeartbeats 1600000 in
theorem queuePlays_no (count bytes : Int) (A : Option Addr) (n c : Nat) (w : World) (h : count < 0 ∨ 64 < count ∨ bytes < 0) :
    Calls Try.prog 4 #[.int .i64 count, .int .i64 bytes, .slice A n c] w fun e w' => e = .returned (.bool true) ∧ Only [] w w' := by
  have H := Lib.hid h; clear h
  go_enter Try.func4, Try.ntmps4
  go_wp2_with fail
  refine (newInt_no count bytes _ _ H.out).mono ?_
  rintro e w1 ⟨rfl, rfl⟩
  go_wp2_with fail
  refine (known_any _).mono ?_
  rintro e w1 ⟨rfl, ho⟩
  have HO := Lib.hid ho; clear ho
  go_wp2_with fail
  refine (may_no count bytes _ H.out).mono ?_
  rintro e w' ⟨rfl, rfl⟩
  go_wp2_with fail
  go_ret
  exact ⟨rfl, HO.out⟩

theorem queuePlays_walk (count bytes : Int) (A : Option Addr) (n c : Nat) (z : List (Bool × Int)) (w : World) (h1 : -9223372036854775808 ≤ count ∧ count ≤ 9223372036854775807) (h2 : -9223372036854775808 ≤ bytes ∧ bytes ≤ 9223372036854775807)
    (hz : z.length = n) (hA : Arg w 2 A n (z.flatMap encOp19)) (hq : ∀ o ∈ z, (Lit.int .i64 o.2).wf = true) (hn : n ≤ c) (hr : c * 16 ≤ 140737488351232) :
    Calls Try.prog 4 #[.int .i64 count, .int .i64 bytes, .slice A n c] w fun e w' => e = .returned (.bool true) ∧ Below w.heap.size w w' := by
  by_cases h : count < 0 ∨ 64 < count ∨ bytes < 0
  · exact (queuePlays_no count bytes A n c w h).mono fun e w' ⟨he, ho⟩ => ⟨he, ho.below (Nat.le_refl _) (by simp)⟩
  · exact (queuePlays_yes count bytes A n c z w (by omega) (by omega) (by omega) h2.2 hz hA (by omega)).mono fun e w' ⟨he, ho⟩ => ⟨he, ho.below (Nat.le_refl _) (by simp)⟩
end Go.Proofs.Ytjlnkfbhbiinoaa
