/-
  QueueApart: what is done to one queue is not seen in another: the law's own walk.
-/
import Derived.Test.YtjlnkfbhbiinoaaQnI
import Derived.Test.YtjlnkfbhbiinoaaQnB
import Derived.Test.YtjlnkfbhbiinoaaQk
import Derived.Test.YtjlnkfbhbiinoaaQnews
import Derived.Test.YtjlnkfbhbiinoaaOps19
import Derived.Test.YtjlnkfbhbiinoaaSep
import Derived.Deep.RegionHeld3
import Derived.Deep.DrawnRows
namespace Go.Proofs.Ytjlnkfbhbiinoaa
open Go.RowKit
set_option linter.unusedVariables false
set_option linter.unusedSimpArgs false
attribute [local go_sem ↓] Go.wp_at_zero Go.wp_at_succ

set_option maxRecDepth 100000 in
set_option maxHeartbeats 400000 in
theorem long_any (A : Option Addr) (n c : Nat) (w : World) : Calls Try.prog 42 #[.slice A n c] w fun e w' => e = .returned (.int .i64 n) ∧ w = w' := by
  go_enter Try.func42, Try.ntmps42
  go_wp2
  go_ret
  exact ⟨rfl, rfl⟩
theorem long_enters : ∀ args w, (callFunc 42 args).run Try.prog w = .ok (.enter 42 args) w := enters_of Try.func42 (by kernel_rfl) rfl
theorem Try.infoU8 : (Try.prog.info? 5).map (fun i => (i.zero, i.size, i.bytes)) = some (some (.int .u8 0), 1, 1) := by kernel_rfl
theorem make_bytes (v : Int) (h0 : 0 ≤ v) (h1 : v ≤ 1000) (w : World) : ∃ cs, (Instr.makeSlice 30 (.int .i64 v) (.int .i64 v)).run Try.prog w = .ok (.slice (some ⟨w.heap.size, 0, none⟩) v.toNat v.toNat) (w.alloc (.cells cs 5)) := by
  obtain ⟨i0, hi, hz0, hz1, hz2⟩ := info_parts Try.infoU8
  exact ⟨_, run_make w 30 5 i0 _ Try.underlying30 hi hz0 .i64 .i64 v v h0 (Int.le_refl _) (by rw [hz2]; omega) (by omega)⟩

theorem fresh_cons {Q : Nat} {F F2 : List Nat} {w : World} (f : ∀ k ∈ F2, k ∈ F ∨ w.heap.size ≤ k) : ∀ k ∈ Q :: F2, k ∈ Q :: F ∨ w.heap.size ≤ k := by
  intro k hk
  rcases List.mem_cons.1 hk with rfl | hk
  · exact .inl (by simp)
  · rcases f k hk with h | h
    · exact .inl (by simp [h])
    · exact .inr h

/-- The four queues of the law. -/
structure ApartInv (w wr : World) (count bytes : Int) (Qa Qb Qc Qd : Nat) (Fa Fb Fc Fd : List Nat) (la lb ld : List (Int × Int)) (lc : List ((Option Addr × Nat × Nat) × Int)) : Prop where
  a : QInt wr Qa Fa 14 count bytes la
  b : QInt wr Qb Fb 14 count bytes lb
  c : QBytes wr Qc Fc 42 count bytes lc
  d : QInt wr Qd Fd 14 count bytes ld
  s : Sep w wr [Qa :: Fa, Qb :: Fb, Qc :: Fc, Qd :: Fd]

section
variable {w wr w2 : World} {count bytes : Int} {Qa Qb Qc Qd : Nat} {Fa Fb Fc Fd F2 : List Nat} {la lb ld l2 : List (Int × Int)} {lc l3 : List ((Option Addr × Nat × Nat) × Int)}
theorem ApartInv.only (h : ApartInv w wr count bytes Qa Qb Qc Qd Fa Fb Fc Fd la lb ld lc) (ho : Only [] wr w2) : ApartInv w w2 count bytes Qa Qb Qc Qd Fa Fb Fc Fd la lb ld lc :=
  ⟨h.a.only ho (by simp), h.b.only ho (by simp), h.c.only ho (by simp), h.d.only ho (by simp), h.s.only ho⟩
theorem ApartInv.step_a (h : ApartInv w wr count bytes Qa Qb Qc Qd Fa Fb Fc Fd la lb ld lc) (q2 : QInt w2 Qa F2 14 count bytes l2) (o2 : Only (Qa :: Fa) wr w2) (f2 : ∀ k ∈ F2, k ∈ Fa ∨ wr.heap.size ≤ k) :
    ApartInv w w2 count bytes Qa Qb Qc Qd F2 Fb Fc Fd l2 lb ld lc :=
  ⟨q2, h.b.only o2 (fun k hk => h.s.d 1 0 (by decide) k hk), h.c.only o2 (fun k hk => h.s.d 2 0 (by decide) k hk), h.d.only o2 (fun k hk => h.s.d 3 0 (by decide) k hk), h.s.step 0 o2 (fresh_cons f2) q2.lt⟩
theorem ApartInv.step_b (h : ApartInv w wr count bytes Qa Qb Qc Qd Fa Fb Fc Fd la lb ld lc) (q2 : QInt w2 Qb F2 14 count bytes l2) (o2 : Only (Qb :: Fb) wr w2) (f2 : ∀ k ∈ F2, k ∈ Fb ∨ wr.heap.size ≤ k) :
    ApartInv w w2 count bytes Qa Qb Qc Qd Fa F2 Fc Fd la l2 ld lc :=
  ⟨h.a.only o2 (fun k hk => h.s.d 0 1 (by decide) k hk), q2, h.c.only o2 (fun k hk => h.s.d 2 1 (by decide) k hk), h.d.only o2 (fun k hk => h.s.d 3 1 (by decide) k hk), h.s.step 1 o2 (fresh_cons f2) q2.lt⟩
theorem ApartInv.step_c (h : ApartInv w wr count bytes Qa Qb Qc Qd Fa Fb Fc Fd la lb ld lc) (q2 : QBytes w2 Qc F2 42 count bytes l3) (o2 : Only (Qc :: Fc) wr w2) (f2 : ∀ k ∈ F2, k ∈ Fc ∨ wr.heap.size ≤ k) :
    ApartInv w w2 count bytes Qa Qb Qc Qd Fa Fb F2 Fd la lb ld l3 :=
  ⟨h.a.only o2 (fun k hk => h.s.d 0 2 (by decide) k hk), h.b.only o2 (fun k hk => h.s.d 1 2 (by decide) k hk), q2, h.d.only o2 (fun k hk => h.s.d 3 2 (by decide) k hk), h.s.step 2 o2 (fresh_cons f2) q2.lt⟩
theorem ApartInv.step_d (h : ApartInv w wr count bytes Qa Qb Qc Qd Fa Fb Fc Fd la lb ld lc) (q2 : QInt w2 Qd F2 14 count bytes l2) (o2 : Only (Qd :: Fd) wr w2) (f2 : ∀ k ∈ F2, k ∈ Fd ∨ wr.heap.size ≤ k) :
    ApartInv w w2 count bytes Qa Qb Qc Qd Fa Fb Fc F2 la lb l2 lc :=
  ⟨h.a.only o2 (fun k hk => h.s.d 0 3 (by decide) k hk), h.b.only o2 (fun k hk => h.s.d 1 3 (by decide) k hk), h.c.only o2 (fun k hk => h.s.d 2 3 (by decide) k hk), q2, h.s.step 3 o2 (fresh_cons f2) q2.lt⟩
end

def ApartRel (w : World) (count bytes : Int) (Qa Qb Qc Qd : Nat) (wr : World) : Prop :=
  ∃ Fa Fb Fc Fd l lb lc, ApartInv w wr count bytes Qa Qb Qc Qd Fa Fb Fc Fd l lb l lc

set_option maxRecDepth 100000 in
set_option maxHeartbeats 6400000 in
theorem queueApart_yes (count bytes : Int) (A0 A1 : Option Addr) (n c0 n1 c1 : Nat) (z z1 : List (Bool × Int)) (w : World) (h0 : 0 ≤ count) (h1 : count ≤ 64) (h2 : 0 ≤ bytes) (h3 : bytes ≤ 9223372036854775807)
    (hz : z.length = n) (hA : Arg w 2 A0 n (z.flatMap encOp19)) (hn : n ≤ 140737488351232) (hz1 : z1.length = n1) (hA1 : Arg w 2 A1 n1 (z1.flatMap encOp19)) (hn1 : n1 ≤ 140737488351232) :
    Calls Try.prog 7 #[.int .i64 count, .int .i64 bytes, .slice A0 n c0, .slice A1 n1 c1] w fun e w' => e = .returned (.bool true) ∧ Only [] w w' := by
  have HA := Lib.hid hA; clear hA
  have HZ := Lib.hid hz; clear hz
  have HA1 := Lib.hid hA1; clear hA1
  have HZ1 := Lib.hid hz1; clear hz1
  go_enter Try.func7, Try.ntmps7
  go_wp2_with fail
  refine (newInt_ok count bytes _ _ h0 h1 h2).mono ?_
  rintro e w1 ⟨rfl, hw⟩
  have HN1 := Lib.hid hw
  clear hw
  go_wp2_with fail
  refine (newInt_ok count bytes _ _ h0 h1 h2).mono ?_
  rintro e w2 ⟨rfl, hw⟩
  have HN2 := Lib.hid hw
  clear hw
  go_wp2_with fail
  refine (newBytes_ok count bytes _ _ h0 h1 h2).mono ?_
  rintro e w3 ⟨rfl, hw⟩
  have HN3 := Lib.hid hw
  clear hw
  go_wp2_with fail
  refine (known_any _).mono ?_
  rintro e w4 ⟨rfl, ho⟩
  have HK := Lib.hid ho
  clear ho
  go_wp2_with fail
  refine (newInt_ok count bytes _ _ h0 h1 h2).mono ?_
  rintro e w5 ⟨rfl, hw⟩
  have HN5 := Lib.hid hw
  clear hw
  have qa : QInt w1 w.heap.size [] 14 count bytes [] := by rw [← HN1.out]; exact QI.new w _ count bytes h0 h1 h2 h3
  have oa : Only [] w w1 := by rw [← HN1.out]; exact (Only.refl [] w).alloc _
  have qb : QInt w2 w1.heap.size [] 14 count bytes [] := by rw [← HN2.out]; exact QI.new w1 _ count bytes h0 h1 h2 h3
  have ob : Only [] w1 w2 := by rw [← HN2.out]; exact (Only.refl [] w1).alloc _
  have qc : QBytes w3 w2.heap.size [] 42 count bytes [] := by rw [← HN3.out]; exact QI.new w2 _ count bytes h0 h1 h2 h3
  have oc : Only [] w2 w3 := by rw [← HN3.out]; exact (Only.refl [] w2).alloc _
  have qd : QInt w5 w4.heap.size [] 14 count bytes [] := by rw [← HN5.out]; exact QI.new w4 _ count bytes h0 h1 h2 h3
  have od : Only [] w4 w5 := by rw [← HN5.out]; exact (Only.refl [] w4).alloc _
  have ok := HK.out
  have hinv : ApartRel w count bytes w.heap.size w1.heap.size w2.heap.size w4.heap.size w5 := by
    refine ⟨[], [], [], [], [], [], [], ?_, ?_, ?_, qd, ?_⟩
    · exact (((qa.only ob (by simp)).only oc (by simp)).only ok (by simp)).only od (by simp)
    · exact ((qb.only oc (by simp)).only ok (by simp)).only od (by simp)
    · exact (qc.only ok (by simp)).only od (by simp)
    · have s1 := (Sep.nil w).add (F' := [w.heap.size]) oa (by simp) qa.lt
      have s2 := s1.add (F' := [w1.heap.size]) ob (by simp) qb.lt
      have s3 := (s2.add (F' := [w2.heap.size]) oc (by simp) qc.lt).only ok
      exact s3.add (F' := [w4.heap.size]) od (by simp) qd.lt
  have HINV := Lib.hid hinv
  clear hinv qa qb qc qd oa ob oc od ok HN1 HN2 HN3 HN5 HK
  go_wp2_with fail
  generalize hQa : w.heap.size = Qa at *
  generalize w1.heap.size = Qb at *
  generalize w2.heap.size = Qc at *
  generalize w4.heap.size = Qd at *
  have HQE := Lib.hid hQa; clear hQa
  go_loopw [17] (fun i wr => ∃ k : Nat, k ≤ max n n1 ∧ i = .int .i64 k ∧ ApartRel w count bytes Qa Qb Qc Qd wr) (fun i _ => max n n1 - (intOf i).toNat)
  case atStart => exact ⟨0, Nat.zero_le _, rfl, HINV.out⟩
  case round =>
    clear HINV
    obtain ⟨k, hk, rfl, Fa, Fb, Fc, Fd, l, lb, lc, hinv⟩ := hrel
    have HINV := Lib.hid hinv
    clear hinv
    by_cases hlt1 : k < n1
    · have hk0 : k < n1 := hlt1
      by_cases hlt : k < n
      · obtain ⟨bp1, offp1, rfl, hb, hc⟩ := HA1.out.2 (by omega)
        obtain ⟨z0, z9⟩ := encOp19_at z1 k (by rw [HZ1.out]; omega)
        have e0 : wr.cell? ⟨bp1, offp1 + k * 2, none⟩ = some (.bool (z1[k]'(by rw [HZ1.out]; omega)).1) := HINV.out.s.o.cell (hc _ _ z0) (by simp)
        have e1 : wr.cell? ⟨bp1, offp1 + k * 2 + 1, none⟩ = some (.int .i64 (z1[k]'(by rw [HZ1.out]; omega)).2) := HINV.out.s.o.cell (hc _ _ z9) (by simp)
        have HCp1 := Lib.hid (show w.cell? ⟨bp1, offp1 + k * 2 + 1, none⟩ = some (.int .i64 (z1[k]'(by rw [HZ1.out]; omega)).2) from hc _ _ z9)
        clear hc z0 z9 hb
        generalize (z1[k]'(by rw [HZ1.out]; omega)).1 = p1 at *
        generalize (z1[k]'(by rw [HZ1.out]; omega)).2 = x1 at *
        cases p1
        · go_wp2_with fail
          refine (popInt_any _ _ _ _ _ _ _ _ rfl HINV.out.b).mono ?_
          rintro e W2 ⟨rfl, F2, q2, o2, f2⟩
          have HI2 := Lib.hid (HINV.out.step_b q2 o2 f2)
          clear q2 o2 f2
          go_wp2_with fail
          refine (popBytes_any _ _ _ _ _ _ _ _ rfl HI2.out.c).mono ?_
          rintro e W3 ⟨rfl, F3, q3, o3, f3⟩
          have HI3 := Lib.hid (HI2.out.step_c q3 o3 f3)
          clear q3 o3 f3 HI2 e0 e1
          obtain ⟨bp2, offp2, rfl, hb, hc⟩ := HA.out.2 (by omega)
          obtain ⟨z0, z9⟩ := encOp19_at z k (by rw [HZ.out]; omega)
          have e0 : W3.cell? ⟨bp2, offp2 + k * 2, none⟩ = some (.bool (z[k]'(by rw [HZ.out]; omega)).1) := HI3.out.s.o.cell (hc _ _ z0) (by simp)
          have e1 : W3.cell? ⟨bp2, offp2 + k * 2 + 1, none⟩ = some (.int .i64 (z[k]'(by rw [HZ.out]; omega)).2) := HI3.out.s.o.cell (hc _ _ z9) (by simp)
          have HCp2 := Lib.hid (show w.cell? ⟨bp2, offp2 + k * 2 + 1, none⟩ = some (.int .i64 (z[k]'(by rw [HZ.out]; omega)).2) from hc _ _ z9)
          clear hc z0 z9 hb
          generalize (z[k]'(by rw [HZ.out]; omega)).1 = p2 at *
          generalize (z[k]'(by rw [HZ.out]; omega)).2 = x2 at *
          have hge : decide (n ≤ k) = false := by simp; omega
          cases p2
          · obtain ⟨aa, ha⟩ : ∃ aa, qhead l 0 = aa := ⟨_, rfl⟩
            have HH := Lib.hid ha
            clear ha
            go_wp2_with fail
            refine (popInt_any _ _ _ _ _ _ aa _ HH.out HI3.out.a).mono ?_
            rintro e W8 ⟨rfl, F8, q8, o8, f8⟩
            have HI8 := Lib.hid (HI3.out.step_a q8 o8 f8)
            clear q8 o8 f8
            go_wp2_with fail
            refine (popInt_any _ _ _ _ _ _ aa _ HH.out HI8.out.d).mono ?_
            rintro e W9 ⟨rfl, F9, q9, o9, f9⟩
            have HI9 := Lib.hid (HI8.out.step_d q9 o9 f9)
            clear q9 o9 f9 HI8
            generalize qhas l = qh at *
            have hne : (aa != aa) = false := by simp
            have hnb : (qh != qh) = false := by simp
            go_wp2_with fail
            refine (lenInt_any _ _ _ _ _ _ _ HI9.out.a).mono ?_
            rintro e w' ⟨rfl, rfl⟩
            go_wp2_with fail
            refine (lenInt_any _ _ _ _ _ _ _ HI9.out.d).mono ?_
            rintro e w' ⟨rfl, rfl⟩
            have hg : (((l.tail.length : Nat) : Int) != ((l.tail.length : Nat) : Int)) = false := by simp
            go_wp2_with fail
            refine (bytesInt_any _ _ _ _ _ _ _ HI9.out.a).mono ?_
            rintro e w' ⟨rfl, rfl⟩
            go_wp2_with fail
            refine (bytesInt_any _ _ _ _ _ _ _ HI9.out.d).mono ?_
            rintro e w' ⟨rfl, rfl⟩
            have hg2 : (qsum l.tail != qsum l.tail) = false := by simp
            go_wp2_with fail
            go_roundw
            case rel => exact ⟨k + 1, by omega, by go_num, _, _, _, _, _, _, _, HI9.out⟩
            case measure => simp [intOf]; omega
          · have ho2 : Only [] w W3 := HI3.out.s.o
            go_wp2_with fail
            have HI7 := Lib.hid (HI3.out.only ((Only.refl [] W3).drew))
            clear ho2
            go_region_held3 (fun w' => w'.cell? ⟨bp2, offp2 + k * 2 + 1, none⟩ = some (.int .i64 x2)) (first | go_keep | assumption) (first
              | (go_at_call_of 21 Qa; refine (pushInt_any Qa _ _ count bytes x2 l x2 _ own_enters (own_any x2) HI7.out.a).mono ?_; rintro e W8 ⟨rfl, F8, q8, o8, f8⟩; have HI8 := Lib.hid (HI7.out.step_a q8 o8 f8); have hx8 := HI8.out.s.o.cell HCp2.out (by simp); clear q8 o8 f8)
              | (go_at_call_of 21 Qd; refine (pushInt_any Qd _ _ count bytes x2 l x2 _ own_enters (own_any x2) HI8.out.d).mono ?_; rintro e W9 ⟨rfl, F9, q9, o9, f9⟩; have HI9 := Lib.hid (HI8.out.step_d q9 o9 f9); have hx9 := HI9.out.s.o.cell HCp2.out (by simp); clear q9 o9 f9))
            clear hx8 hx9 HI7 HI8
            generalize qpush count bytes l x2 x2 = l9 at *
            go_wp2_with fail
            refine (lenInt_any _ _ _ _ _ _ _ HI9.out.a).mono ?_
            rintro e w' ⟨rfl, rfl⟩
            go_wp2_with fail
            refine (lenInt_any _ _ _ _ _ _ _ HI9.out.d).mono ?_
            rintro e w' ⟨rfl, rfl⟩
            have hg : (((l9.length : Nat) : Int) != ((l9.length : Nat) : Int)) = false := by simp
            go_wp2_with fail
            refine (bytesInt_any _ _ _ _ _ _ _ HI9.out.a).mono ?_
            rintro e w' ⟨rfl, rfl⟩
            go_wp2_with fail
            refine (bytesInt_any _ _ _ _ _ _ _ HI9.out.d).mono ?_
            rintro e w' ⟨rfl, rfl⟩
            have hg2 : (qsum l9 != qsum l9) = false := by simp
            go_wp2_with fail
            go_roundw
            case rel => exact ⟨k + 1, by omega, by go_num, _, _, _, _, _, _, _, HI9.out⟩
            case measure => simp [intOf]; omega
        · go_wp2_with fail
          refine (pushInt_any _ _ _ count bytes x1 _ x1 _ own_enters (own_any x1) HINV.out.b).mono ?_
          rintro e W2 ⟨rfl, F2, q2, o2, f2⟩
          have HI2 := Lib.hid (HINV.out.step_b q2 o2 f2)
          have hx2 := HI2.out.s.o.cell HCp1.out (by simp)
          clear q2 o2 f2 e0 e1
          by_cases hx : 0 < x1
          · obtain ⟨cs, hmk⟩ := make_bytes (x1 % 100) (by omega) (by omega) W2
            go_wp2_with fail
            have HI4 := Lib.hid (HI2.out.only ((Only.refl [] W2).alloc (.cells cs 5)))
            refine (pushBytes_any _ _ _ count bytes ((x1 % 100).toNat : Nat) _ (some ⟨W2.heap.size, 0, none⟩, (x1 % 100).toNat, (x1 % 100).toNat) _ long_enters (long_any _ _ _) HI4.out.c).mono ?_
            rintro e W3 ⟨rfl, F3, q3, o3, f3⟩
            have HI3 := Lib.hid (HI4.out.step_c q3 o3 f3)
            clear q3 o3 f3 HI2 HI4 hmk hx2
            obtain ⟨bp2, offp2, rfl, hb, hc⟩ := HA.out.2 (by omega)
            obtain ⟨z0, z9⟩ := encOp19_at z k (by rw [HZ.out]; omega)
            have e0 : W3.cell? ⟨bp2, offp2 + k * 2, none⟩ = some (.bool (z[k]'(by rw [HZ.out]; omega)).1) := HI3.out.s.o.cell (hc _ _ z0) (by simp)
            have e1 : W3.cell? ⟨bp2, offp2 + k * 2 + 1, none⟩ = some (.int .i64 (z[k]'(by rw [HZ.out]; omega)).2) := HI3.out.s.o.cell (hc _ _ z9) (by simp)
            have HCp2 := Lib.hid (show w.cell? ⟨bp2, offp2 + k * 2 + 1, none⟩ = some (.int .i64 (z[k]'(by rw [HZ.out]; omega)).2) from hc _ _ z9)
            clear hc z0 z9 hb
            generalize (z[k]'(by rw [HZ.out]; omega)).1 = p2 at *
            generalize (z[k]'(by rw [HZ.out]; omega)).2 = x2 at *
            have hge : decide (n ≤ k) = false := by simp; omega
            cases p2
            · obtain ⟨aa, ha⟩ : ∃ aa, qhead l 0 = aa := ⟨_, rfl⟩
              have HH := Lib.hid ha
              clear ha
              go_wp2_with fail
              refine (popInt_any _ _ _ _ _ _ aa _ HH.out HI3.out.a).mono ?_
              rintro e W8 ⟨rfl, F8, q8, o8, f8⟩
              have HI8 := Lib.hid (HI3.out.step_a q8 o8 f8)
              clear q8 o8 f8
              go_wp2_with fail
              refine (popInt_any _ _ _ _ _ _ aa _ HH.out HI8.out.d).mono ?_
              rintro e W9 ⟨rfl, F9, q9, o9, f9⟩
              have HI9 := Lib.hid (HI8.out.step_d q9 o9 f9)
              clear q9 o9 f9 HI8
              generalize qhas l = qh at *
              have hne : (aa != aa) = false := by simp
              have hnb : (qh != qh) = false := by simp
              go_wp2_with fail
              refine (lenInt_any _ _ _ _ _ _ _ HI9.out.a).mono ?_
              rintro e w' ⟨rfl, rfl⟩
              go_wp2_with fail
              refine (lenInt_any _ _ _ _ _ _ _ HI9.out.d).mono ?_
              rintro e w' ⟨rfl, rfl⟩
              have hg : (((l.tail.length : Nat) : Int) != ((l.tail.length : Nat) : Int)) = false := by simp
              go_wp2_with fail
              refine (bytesInt_any _ _ _ _ _ _ _ HI9.out.a).mono ?_
              rintro e w' ⟨rfl, rfl⟩
              go_wp2_with fail
              refine (bytesInt_any _ _ _ _ _ _ _ HI9.out.d).mono ?_
              rintro e w' ⟨rfl, rfl⟩
              have hg2 : (qsum l.tail != qsum l.tail) = false := by simp
              go_wp2_with fail
              go_roundw
              case rel => exact ⟨k + 1, by omega, by go_num, _, _, _, _, _, _, _, HI9.out⟩
              case measure => simp [intOf]; omega
            · have ho2 : Only [] w W3 := HI3.out.s.o
              go_wp2_with fail
              have HI7 := Lib.hid (HI3.out.only ((Only.refl [] W3).drew))
              clear ho2
              go_region_held3 (fun w' => w'.cell? ⟨bp2, offp2 + k * 2 + 1, none⟩ = some (.int .i64 x2)) (first | go_keep | assumption) (first
                | (go_at_call_of 21 Qa; refine (pushInt_any Qa _ _ count bytes x2 l x2 _ own_enters (own_any x2) HI7.out.a).mono ?_; rintro e W8 ⟨rfl, F8, q8, o8, f8⟩; have HI8 := Lib.hid (HI7.out.step_a q8 o8 f8); have hx8 := HI8.out.s.o.cell HCp2.out (by simp); clear q8 o8 f8)
                | (go_at_call_of 21 Qd; refine (pushInt_any Qd _ _ count bytes x2 l x2 _ own_enters (own_any x2) HI8.out.d).mono ?_; rintro e W9 ⟨rfl, F9, q9, o9, f9⟩; have HI9 := Lib.hid (HI8.out.step_d q9 o9 f9); have hx9 := HI9.out.s.o.cell HCp2.out (by simp); clear q9 o9 f9))
              clear hx8 hx9 HI7 HI8
              generalize qpush count bytes l x2 x2 = l9 at *
              go_wp2_with fail
              refine (lenInt_any _ _ _ _ _ _ _ HI9.out.a).mono ?_
              rintro e w' ⟨rfl, rfl⟩
              go_wp2_with fail
              refine (lenInt_any _ _ _ _ _ _ _ HI9.out.d).mono ?_
              rintro e w' ⟨rfl, rfl⟩
              have hg : (((l9.length : Nat) : Int) != ((l9.length : Nat) : Int)) = false := by simp
              go_wp2_with fail
              refine (bytesInt_any _ _ _ _ _ _ _ HI9.out.a).mono ?_
              rintro e w' ⟨rfl, rfl⟩
              go_wp2_with fail
              refine (bytesInt_any _ _ _ _ _ _ _ HI9.out.d).mono ?_
              rintro e w' ⟨rfl, rfl⟩
              have hg2 : (qsum l9 != qsum l9) = false := by simp
              go_wp2_with fail
              go_roundw
              case rel => exact ⟨k + 1, by omega, by go_num, _, _, _, _, _, _, _, HI9.out⟩
              case measure => simp [intOf]; omega
          · obtain ⟨cs, hmk⟩ := make_bytes 0 (by omega) (by omega) W2
            go_wp2_with fail
            have HI4 := Lib.hid (HI2.out.only ((Only.refl [] W2).alloc (.cells cs 5)))
            refine (pushBytes_any _ _ _ count bytes (0 : Nat) _ (some ⟨W2.heap.size, 0, none⟩, 0, 0) _ long_enters (long_any _ _ _) HI4.out.c).mono ?_
            rintro e W3 ⟨rfl, F3, q3, o3, f3⟩
            have HI3 := Lib.hid (HI4.out.step_c q3 o3 f3)
            clear q3 o3 f3 HI2 HI4 hmk hx2
            obtain ⟨bp2, offp2, rfl, hb, hc⟩ := HA.out.2 (by omega)
            obtain ⟨z0, z9⟩ := encOp19_at z k (by rw [HZ.out]; omega)
            have e0 : W3.cell? ⟨bp2, offp2 + k * 2, none⟩ = some (.bool (z[k]'(by rw [HZ.out]; omega)).1) := HI3.out.s.o.cell (hc _ _ z0) (by simp)
            have e1 : W3.cell? ⟨bp2, offp2 + k * 2 + 1, none⟩ = some (.int .i64 (z[k]'(by rw [HZ.out]; omega)).2) := HI3.out.s.o.cell (hc _ _ z9) (by simp)
            have HCp2 := Lib.hid (show w.cell? ⟨bp2, offp2 + k * 2 + 1, none⟩ = some (.int .i64 (z[k]'(by rw [HZ.out]; omega)).2) from hc _ _ z9)
            clear hc z0 z9 hb
            generalize (z[k]'(by rw [HZ.out]; omega)).1 = p2 at *
            generalize (z[k]'(by rw [HZ.out]; omega)).2 = x2 at *
            have hge : decide (n ≤ k) = false := by simp; omega
            cases p2
            · obtain ⟨aa, ha⟩ : ∃ aa, qhead l 0 = aa := ⟨_, rfl⟩
              have HH := Lib.hid ha
              clear ha
              go_wp2_with fail
              refine (popInt_any _ _ _ _ _ _ aa _ HH.out HI3.out.a).mono ?_
              rintro e W8 ⟨rfl, F8, q8, o8, f8⟩
              have HI8 := Lib.hid (HI3.out.step_a q8 o8 f8)
              clear q8 o8 f8
              go_wp2_with fail
              refine (popInt_any _ _ _ _ _ _ aa _ HH.out HI8.out.d).mono ?_
              rintro e W9 ⟨rfl, F9, q9, o9, f9⟩
              have HI9 := Lib.hid (HI8.out.step_d q9 o9 f9)
              clear q9 o9 f9 HI8
              generalize qhas l = qh at *
              have hne : (aa != aa) = false := by simp
              have hnb : (qh != qh) = false := by simp
              go_wp2_with fail
              refine (lenInt_any _ _ _ _ _ _ _ HI9.out.a).mono ?_
              rintro e w' ⟨rfl, rfl⟩
              go_wp2_with fail
              refine (lenInt_any _ _ _ _ _ _ _ HI9.out.d).mono ?_
              rintro e w' ⟨rfl, rfl⟩
              have hg : (((l.tail.length : Nat) : Int) != ((l.tail.length : Nat) : Int)) = false := by simp
              go_wp2_with fail
              refine (bytesInt_any _ _ _ _ _ _ _ HI9.out.a).mono ?_
              rintro e w' ⟨rfl, rfl⟩
              go_wp2_with fail
              refine (bytesInt_any _ _ _ _ _ _ _ HI9.out.d).mono ?_
              rintro e w' ⟨rfl, rfl⟩
              have hg2 : (qsum l.tail != qsum l.tail) = false := by simp
              go_wp2_with fail
              go_roundw
              case rel => exact ⟨k + 1, by omega, by go_num, _, _, _, _, _, _, _, HI9.out⟩
              case measure => simp [intOf]; omega
            · have ho2 : Only [] w W3 := HI3.out.s.o
              go_wp2_with fail
              have HI7 := Lib.hid (HI3.out.only ((Only.refl [] W3).drew))
              clear ho2
              go_region_held3 (fun w' => w'.cell? ⟨bp2, offp2 + k * 2 + 1, none⟩ = some (.int .i64 x2)) (first | go_keep | assumption) (first
                | (go_at_call_of 21 Qa; refine (pushInt_any Qa _ _ count bytes x2 l x2 _ own_enters (own_any x2) HI7.out.a).mono ?_; rintro e W8 ⟨rfl, F8, q8, o8, f8⟩; have HI8 := Lib.hid (HI7.out.step_a q8 o8 f8); have hx8 := HI8.out.s.o.cell HCp2.out (by simp); clear q8 o8 f8)
                | (go_at_call_of 21 Qd; refine (pushInt_any Qd _ _ count bytes x2 l x2 _ own_enters (own_any x2) HI8.out.d).mono ?_; rintro e W9 ⟨rfl, F9, q9, o9, f9⟩; have HI9 := Lib.hid (HI8.out.step_d q9 o9 f9); have hx9 := HI9.out.s.o.cell HCp2.out (by simp); clear q9 o9 f9))
              clear hx8 hx9 HI7 HI8
              generalize qpush count bytes l x2 x2 = l9 at *
              go_wp2_with fail
              refine (lenInt_any _ _ _ _ _ _ _ HI9.out.a).mono ?_
              rintro e w' ⟨rfl, rfl⟩
              go_wp2_with fail
              refine (lenInt_any _ _ _ _ _ _ _ HI9.out.d).mono ?_
              rintro e w' ⟨rfl, rfl⟩
              have hg : (((l9.length : Nat) : Int) != ((l9.length : Nat) : Int)) = false := by simp
              go_wp2_with fail
              refine (bytesInt_any _ _ _ _ _ _ _ HI9.out.a).mono ?_
              rintro e w' ⟨rfl, rfl⟩
              go_wp2_with fail
              refine (bytesInt_any _ _ _ _ _ _ _ HI9.out.d).mono ?_
              rintro e w' ⟨rfl, rfl⟩
              have hg2 : (qsum l9 != qsum l9) = false := by simp
              go_wp2_with fail
              go_roundw
              case rel => exact ⟨k + 1, by omega, by go_num, _, _, _, _, _, _, _, HI9.out⟩
              case measure => simp [intOf]; omega
      · obtain ⟨bp1, offp1, rfl, hb, hc⟩ := HA1.out.2 (by omega)
        obtain ⟨z0, z9⟩ := encOp19_at z1 k (by rw [HZ1.out]; omega)
        have e0 : wr.cell? ⟨bp1, offp1 + k * 2, none⟩ = some (.bool (z1[k]'(by rw [HZ1.out]; omega)).1) := HINV.out.s.o.cell (hc _ _ z0) (by simp)
        have e1 : wr.cell? ⟨bp1, offp1 + k * 2 + 1, none⟩ = some (.int .i64 (z1[k]'(by rw [HZ1.out]; omega)).2) := HINV.out.s.o.cell (hc _ _ z9) (by simp)
        have HCp1 := Lib.hid (show w.cell? ⟨bp1, offp1 + k * 2 + 1, none⟩ = some (.int .i64 (z1[k]'(by rw [HZ1.out]; omega)).2) from hc _ _ z9)
        clear hc z0 z9 hb
        generalize (z1[k]'(by rw [HZ1.out]; omega)).1 = p1 at *
        generalize (z1[k]'(by rw [HZ1.out]; omega)).2 = x1 at *
        cases p1
        · go_wp2_with fail
          refine (popInt_any _ _ _ _ _ _ _ _ rfl HINV.out.b).mono ?_
          rintro e W2 ⟨rfl, F2, q2, o2, f2⟩
          have HI2 := Lib.hid (HINV.out.step_b q2 o2 f2)
          clear q2 o2 f2
          go_wp2_with fail
          refine (popBytes_any _ _ _ _ _ _ _ _ rfl HI2.out.c).mono ?_
          rintro e W3 ⟨rfl, F3, q3, o3, f3⟩
          have HI3 := Lib.hid (HI2.out.step_c q3 o3 f3)
          clear q3 o3 f3 HI2 e0 e1
          go_wp2_with fail
          go_roundw
          case rel => exact ⟨k + 1, by omega, by go_num, _, _, _, _, _, _, _, HI3.out⟩
          case measure => simp [intOf]; omega
        · go_wp2_with fail
          refine (pushInt_any _ _ _ count bytes x1 _ x1 _ own_enters (own_any x1) HINV.out.b).mono ?_
          rintro e W2 ⟨rfl, F2, q2, o2, f2⟩
          have HI2 := Lib.hid (HINV.out.step_b q2 o2 f2)
          have hx2 := HI2.out.s.o.cell HCp1.out (by simp)
          clear q2 o2 f2 e0 e1
          by_cases hx : 0 < x1
          · obtain ⟨cs, hmk⟩ := make_bytes (x1 % 100) (by omega) (by omega) W2
            go_wp2_with fail
            have HI4 := Lib.hid (HI2.out.only ((Only.refl [] W2).alloc (.cells cs 5)))
            refine (pushBytes_any _ _ _ count bytes ((x1 % 100).toNat : Nat) _ (some ⟨W2.heap.size, 0, none⟩, (x1 % 100).toNat, (x1 % 100).toNat) _ long_enters (long_any _ _ _) HI4.out.c).mono ?_
            rintro e W3 ⟨rfl, F3, q3, o3, f3⟩
            have HI3 := Lib.hid (HI4.out.step_c q3 o3 f3)
            clear q3 o3 f3 HI2 HI4 hmk hx2
            go_wp2_with fail
            go_roundw
            case rel => exact ⟨k + 1, by omega, by go_num, _, _, _, _, _, _, _, HI3.out⟩
            case measure => simp [intOf]; omega
          · obtain ⟨cs, hmk⟩ := make_bytes 0 (by omega) (by omega) W2
            go_wp2_with fail
            have HI4 := Lib.hid (HI2.out.only ((Only.refl [] W2).alloc (.cells cs 5)))
            refine (pushBytes_any _ _ _ count bytes (0 : Nat) _ (some ⟨W2.heap.size, 0, none⟩, 0, 0) _ long_enters (long_any _ _ _) HI4.out.c).mono ?_
            rintro e W3 ⟨rfl, F3, q3, o3, f3⟩
            have HI3 := Lib.hid (HI4.out.step_c q3 o3 f3)
            clear q3 o3 f3 HI2 HI4 hmk hx2
            go_wp2_with fail
            go_roundw
            case rel => exact ⟨k + 1, by omega, by go_num, _, _, _, _, _, _, _, HI3.out⟩
            case measure => simp [intOf]; omega
    · by_cases hlt : k < n
      · have hk0 : ¬ k < n1 := hlt1
        obtain ⟨bp2, offp2, rfl, hb, hc⟩ := HA.out.2 (by omega)
        obtain ⟨z0, z9⟩ := encOp19_at z k (by rw [HZ.out]; omega)
        have e0 : wr.cell? ⟨bp2, offp2 + k * 2, none⟩ = some (.bool (z[k]'(by rw [HZ.out]; omega)).1) := HINV.out.s.o.cell (hc _ _ z0) (by simp)
        have e1 : wr.cell? ⟨bp2, offp2 + k * 2 + 1, none⟩ = some (.int .i64 (z[k]'(by rw [HZ.out]; omega)).2) := HINV.out.s.o.cell (hc _ _ z9) (by simp)
        have HCp2 := Lib.hid (show w.cell? ⟨bp2, offp2 + k * 2 + 1, none⟩ = some (.int .i64 (z[k]'(by rw [HZ.out]; omega)).2) from hc _ _ z9)
        clear hc z0 z9 hb
        generalize (z[k]'(by rw [HZ.out]; omega)).1 = p2 at *
        generalize (z[k]'(by rw [HZ.out]; omega)).2 = x2 at *
        have hge : decide (n ≤ k) = false := by simp; omega
        cases p2
        · obtain ⟨aa, ha⟩ : ∃ aa, qhead l 0 = aa := ⟨_, rfl⟩
          have HH := Lib.hid ha
          clear ha
          go_wp2_with fail
          refine (popInt_any _ _ _ _ _ _ aa _ HH.out HINV.out.a).mono ?_
          rintro e W8 ⟨rfl, F8, q8, o8, f8⟩
          have HI8 := Lib.hid (HINV.out.step_a q8 o8 f8)
          clear q8 o8 f8
          go_wp2_with fail
          refine (popInt_any _ _ _ _ _ _ aa _ HH.out HI8.out.d).mono ?_
          rintro e W9 ⟨rfl, F9, q9, o9, f9⟩
          have HI9 := Lib.hid (HI8.out.step_d q9 o9 f9)
          clear q9 o9 f9 HI8
          generalize qhas l = qh at *
          have hne : (aa != aa) = false := by simp
          have hnb : (qh != qh) = false := by simp
          go_wp2_with fail
          refine (lenInt_any _ _ _ _ _ _ _ HI9.out.a).mono ?_
          rintro e w' ⟨rfl, rfl⟩
          go_wp2_with fail
          refine (lenInt_any _ _ _ _ _ _ _ HI9.out.d).mono ?_
          rintro e w' ⟨rfl, rfl⟩
          have hg : (((l.tail.length : Nat) : Int) != ((l.tail.length : Nat) : Int)) = false := by simp
          go_wp2_with fail
          refine (bytesInt_any _ _ _ _ _ _ _ HI9.out.a).mono ?_
          rintro e w' ⟨rfl, rfl⟩
          go_wp2_with fail
          refine (bytesInt_any _ _ _ _ _ _ _ HI9.out.d).mono ?_
          rintro e w' ⟨rfl, rfl⟩
          have hg2 : (qsum l.tail != qsum l.tail) = false := by simp
          go_wp2_with fail
          go_roundw
          case rel => exact ⟨k + 1, by omega, by go_num, _, _, _, _, _, _, _, HI9.out⟩
          case measure => simp [intOf]; omega
        · have ho2 : Only [] w wr := HINV.out.s.o
          go_wp2_with fail
          have HI7 := Lib.hid (HINV.out.only ((Only.refl [] wr).drew))
          clear ho2
          go_region_held3 (fun w' => w'.cell? ⟨bp2, offp2 + k * 2 + 1, none⟩ = some (.int .i64 x2)) (first | go_keep | assumption) (first
            | (go_at_call_of 21 Qa; refine (pushInt_any Qa _ _ count bytes x2 l x2 _ own_enters (own_any x2) HI7.out.a).mono ?_; rintro e W8 ⟨rfl, F8, q8, o8, f8⟩; have HI8 := Lib.hid (HI7.out.step_a q8 o8 f8); have hx8 := HI8.out.s.o.cell HCp2.out (by simp); clear q8 o8 f8)
            | (go_at_call_of 21 Qd; refine (pushInt_any Qd _ _ count bytes x2 l x2 _ own_enters (own_any x2) HI8.out.d).mono ?_; rintro e W9 ⟨rfl, F9, q9, o9, f9⟩; have HI9 := Lib.hid (HI8.out.step_d q9 o9 f9); have hx9 := HI9.out.s.o.cell HCp2.out (by simp); clear q9 o9 f9))
          clear hx8 hx9 HI7 HI8
          generalize qpush count bytes l x2 x2 = l9 at *
          go_wp2_with fail
          refine (lenInt_any _ _ _ _ _ _ _ HI9.out.a).mono ?_
          rintro e w' ⟨rfl, rfl⟩
          go_wp2_with fail
          refine (lenInt_any _ _ _ _ _ _ _ HI9.out.d).mono ?_
          rintro e w' ⟨rfl, rfl⟩
          have hg : (((l9.length : Nat) : Int) != ((l9.length : Nat) : Int)) = false := by simp
          go_wp2_with fail
          refine (bytesInt_any _ _ _ _ _ _ _ HI9.out.a).mono ?_
          rintro e w' ⟨rfl, rfl⟩
          go_wp2_with fail
          refine (bytesInt_any _ _ _ _ _ _ _ HI9.out.d).mono ?_
          rintro e w' ⟨rfl, rfl⟩
          have hg2 : (qsum l9 != qsum l9) = false := by simp
          go_wp2_with fail
          go_roundw
          case rel => exact ⟨k + 1, by omega, by go_num, _, _, _, _, _, _, _, HI9.out⟩
          case measure => simp [intOf]; omega
      · have hd : decide ((k : Int) < (n : Int)) = false := by simp; omega
        go_wp2_with fail
        go_ret
        exact ⟨rfl, HINV.out.s.o⟩

set_option maxRecDepth 100000 in
set_option maxHeartbeats 1600000 in
theorem queueApart_no (count bytes : Int) (A A1 : Option Addr) (n c n1 c1 : Nat) (w : World) (h : count < 0 ∨ 64 < count ∨ bytes < 0) :
    Calls Try.prog 7 #[.int .i64 count, .int .i64 bytes, .slice A n c, .slice A1 n1 c1] w fun e w' => e = .returned (.bool true) ∧ Only [] w w' := by
  have H := Lib.hid h; clear h
  go_enter Try.func7, Try.ntmps7
  go_wp2_with fail
  refine (newInt_no count bytes _ _ H.out).mono ?_
  rintro e w1 ⟨rfl, rfl⟩
  go_wp2_with fail
  refine (newInt_no count bytes _ _ H.out).mono ?_
  rintro e w1 ⟨rfl, rfl⟩
  go_wp2_with fail
  refine (newBytes_no count bytes _ _ H.out).mono ?_
  rintro e w1 ⟨rfl, rfl⟩
  go_wp2_with fail
  refine (known_any _).mono ?_
  rintro e w1 ⟨rfl, ho⟩
  have HO := Lib.hid ho; clear ho
  go_wp2_with fail
  go_ret
  exact ⟨rfl, HO.out⟩

theorem queueApart_walk (count bytes : Int) (A : Option Addr) (n c : Nat) (z : List (Bool × Int)) (A1 : Option Addr) (n1 c1 : Nat) (z1 : List (Bool × Int)) (w : World) (h1 : -9223372036854775808 ≤ count ∧ count ≤ 9223372036854775807) (h2 : -9223372036854775808 ≤ bytes ∧ bytes ≤ 9223372036854775807)
    (hz : z.length = n) (hA : Arg w 2 A n (z.flatMap encOp19)) (hq : ∀ o ∈ z, (Lit.int .i64 o.2).wf = true) (hn : n ≤ c) (hr : c * 16 ≤ 140737488351232)
    (hz1 : z1.length = n1) (hA1 : Arg w 2 A1 n1 (z1.flatMap encOp19)) (hq1 : ∀ o ∈ z1, (Lit.int .i64 o.2).wf = true) (hn1 : n1 ≤ c1) (hr1 : c1 * 16 ≤ 140737488351232) :
    Calls Try.prog 7 #[.int .i64 count, .int .i64 bytes, .slice A n c, .slice A1 n1 c1] w fun e w' => e = .returned (.bool true) ∧ Below w.heap.size w w' := by
  by_cases h : count < 0 ∨ 64 < count ∨ bytes < 0
  · exact (queueApart_no count bytes A A1 n c n1 c1 w h).mono fun e w' ⟨he, ho⟩ => ⟨he, ho.below (Nat.le_refl _) (by simp)⟩
  · exact (queueApart_yes count bytes A A1 n c n1 c1 z z1 w (by omega) (by omega) (by omega) h2.2 hz hA (by omega) hz1 hA1 (by omega)).mono fun e w' ⟨he, ho⟩ => ⟨he, ho.below (Nat.le_refl _) (by simp)⟩
end Go.Proofs.Ytjlnkfbhbiinoaa
