/-
  QueueKinds: eight queues side by side, in memory of the call's own: how a call on one of them turns the whole.
-/
import Derived.Test.YtjlnkfbhbiinoaaQnI
import Derived.Test.YtjlnkfbhbiinoaaQnA
import Derived.Test.YtjlnkfbhbiinoaaQnS
import Derived.Test.YtjlnkfbhbiinoaaQnT
import Derived.Test.YtjlnkfbhbiinoaaQs
import Derived.Test.YtjlnkfbhbiinoaaSep
namespace Go.Proofs.Ytjlnkfbhbiinoaa
open Go.RowKit
set_option linter.unusedVariables false
set_option linter.unusedSimpArgs false
attribute [local go_sem ↓] Go.wp_at_zero Go.wp_at_succ

theorem fresh_cons8 {Q : Nat} {F F2 : List Nat} {w : World} (f : ∀ k ∈ F2, k ∈ F ∨ w.heap.size ≤ k) : ∀ k ∈ Q :: F2, k ∈ Q :: F ∨ w.heap.size ≤ k := by
  intro k hk
  rcases List.mem_cons.1 hk with rfl | hk
  · exact .inl (by simp)
  · rcases f k hk with h | h
    · exact .inl (by simp [h])
    · exact .inr h
/-- Footprints that are told one by one. -/
theorem sep_d_of : ∀ {Fs : List (List Nat)}, Fs.flatten.Nodup → ∀ i j, i ≠ j → ∀ k ∈ Fs.getD i [], k ∉ Fs.getD j [] := by
  intro Fs
  induction Fs with
  | nil => intro _ i j _ k hk; simp [List.getD] at hk
  | cons F Fs ih =>
    intro h i j hij k hk hm
    rw [List.flatten_cons, List.nodup_append] at h
    obtain ⟨_, h2, h3⟩ := h
    cases i with
    | zero =>
      cases j with
      | zero => exact hij rfl
      | succ j =>
        have hm' : k ∈ Fs.getD j [] := by simpa [List.getD] using hm
        have hk' : k ∈ F := by simpa [List.getD] using hk
        exact h3 k hk' k (List.mem_flatten.2 ⟨_, getD_mem hm', hm'⟩) rfl
    | succ i =>
      have hk' : k ∈ Fs.getD i [] := by simpa [List.getD] using hk
      cases j with
      | zero =>
        have hm' : k ∈ F := by simpa [List.getD] using hm
        exact h3 k hm' k (List.mem_flatten.2 ⟨_, getD_mem hk', hk'⟩) rfl
      | succ j =>
        have hm' : k ∈ Fs.getD j [] := by simpa [List.getD] using hm
        exact ih h2 i j (by omega) k hk' hm'
structure KD where
  (Qa Ra Qb Rb Qc Rc Qd Rd BR : Nat)
structure KS where
  Fa : List Nat
  la : List ((ByteArray × Int × Option Addr × Nat × Nat) × Int)
  Ha : List Nat
  lra : List (Int × Int)
  Fb : List Nat
  lb : List (Int × Int)
  Hb : List Nat
  lrb : List (Int × Int)
  Fc : List Nat
  lc : List ((Int × Int) × Int)
  Hc : List Nat
  lrc : List (Int × Int)
  Fd : List Nat
  ld : List (ByteArray × Int)
  Hd : List Nat
  lrd : List (Int × Int)
  E : List Nat
def KS.foot (d : KD) (s : KS) : List (List Nat) := [d.Qa :: s.Fa, d.Ra :: s.Ha, d.Qb :: s.Fb, d.Rb :: s.Hb, d.Qc :: s.Fc, d.Rc :: s.Hc, d.Qd :: s.Fd, d.Rd :: s.Hd, [d.BR], s.E]
/-- The eight queues. -/
structure KI (w wr : World) (count bytes : Int) (d : KD) (s : KS) : Prop where
  pa : QThing wr d.Qa s.Fa 25 count bytes s.la
  pra : RI wr d.Ra s.Ha count bytes s.lra
  pb : QInt wr d.Qb s.Fb 26 count bytes s.lb
  prb : RI wr d.Rb s.Hb count bytes s.lrb
  pc : QArr wr d.Qc s.Fc 28 count bytes s.lc
  prc : RI wr d.Rc s.Hc count bytes s.lrc
  pd : QStr wr d.Qd s.Fd 30 count bytes s.ld
  prd : RI wr d.Rd s.Hd count bytes s.lrd
  bk : Blk wr d.BR 57 #[.pointer (some ⟨d.Ra, 0, none⟩), .pointer (some ⟨d.Rb, 0, none⟩), .pointer (some ⟨d.Rc, 0, none⟩), .pointer (some ⟨d.Rd, 0, none⟩)]
  sep : Sep w wr (s.foot d)
section
variable {w wr w2 : World} {count bytes : Int} {d : KD} {s : KS} {F2 : List Nat}
theorem KI.only (h : KI w wr count bytes d s) (ho : Only [] wr w2) : KI w w2 count bytes d s :=
  ⟨h.pa.only ho (by simp), h.pra.only ho (by simp), h.pb.only ho (by simp), h.prb.only ho (by simp), h.pc.only ho (by simp), h.prc.only ho (by simp), h.pd.only ho (by simp), h.prd.only ho (by simp), h.bk.only ho (by simp), h.sep.only ho⟩
theorem KI.addE (h : KI w wr count bytes d s) (ho : Only [] wr w2) {E' : List Nat} (h1 : ∀ k ∈ E', wr.heap.size ≤ k) (h2 : ∀ k ∈ E', k < w2.heap.size) : KI w w2 count bytes d { s with E := E' ++ s.E } :=
  ⟨h.pa.only ho (by simp), h.pra.only ho (by simp), h.pb.only ho (by simp), h.prb.only ho (by simp), h.pc.only ho (by simp), h.prc.only ho (by simp), h.pd.only ho (by simp), h.prd.only ho (by simp), h.bk.only ho (by simp), h.sep.step 9 (F' := E' ++ s.E) (ho.mono (by simp)) (fun k hk => by
    rcases List.mem_append.1 hk with hk | hk
    · exact .inr (h1 k hk)
    · exact .inl hk) (fun k hk => by
    rcases List.mem_append.1 hk with hk | hk
    · exact h2 k hk
    · exact Nat.lt_of_lt_of_le (h.sep.l _ (show s.E ∈ s.foot d by simp [KS.foot]) k hk) ho.size)⟩
theorem KI.dropE (h : KI w wr count bytes d s) : KI w wr count bytes d { s with E := [] } :=
  ⟨h.pa, h.pra, h.pb, h.prb, h.pc, h.prc, h.pd, h.prd, h.bk, h.sep.step 9 (F' := []) (Only.refl _ _) (by simp) (by simp)⟩
theorem KI.st_pa {l2 : List ((ByteArray × Int × Option Addr × Nat × Nat) × Int)} (h : KI w wr count bytes d s) (q2 : QThing w2 d.Qa F2 25 count bytes l2) (o2 : Only (d.Qa :: s.Fa) wr w2) (f2 : ∀ k ∈ F2, k ∈ s.Fa ∨ wr.heap.size ≤ k) :
    KI w w2 count bytes d { s with Fa := F2, la := l2 } :=
  ⟨q2, h.pra.only o2 (fun k hk => h.sep.d 1 0 (by decide) k hk), h.pb.only o2 (fun k hk => h.sep.d 2 0 (by decide) k hk), h.prb.only o2 (fun k hk => h.sep.d 3 0 (by decide) k hk), h.pc.only o2 (fun k hk => h.sep.d 4 0 (by decide) k hk), h.prc.only o2 (fun k hk => h.sep.d 5 0 (by decide) k hk), h.pd.only o2 (fun k hk => h.sep.d 6 0 (by decide) k hk), h.prd.only o2 (fun k hk => h.sep.d 7 0 (by decide) k hk), h.bk.only o2 (fun hk => h.sep.d 8 0 (by decide) d.BR (by simp [KS.foot, List.getD]) hk), h.sep.step 0 o2 (fresh_cons8 f2) q2.lt⟩
theorem KI.ke_pa (h : KI w wr count bytes d s) {k : Nat} (hk : k ∈ s.E) : k ∉ d.Qa :: s.Fa := fun hm => h.sep.d 9 0 (by decide) k hk hm
theorem KI.st_pra {l2 : List (Int × Int)} (h : KI w wr count bytes d s) (q2 : RI w2 d.Ra F2 count bytes l2) (o2 : Only (d.Ra :: s.Ha) wr w2) (f2 : ∀ k ∈ F2, k ∈ s.Ha ∨ wr.heap.size ≤ k) :
    KI w w2 count bytes d { s with Ha := F2, lra := l2 } :=
  ⟨h.pa.only o2 (fun k hk => h.sep.d 0 1 (by decide) k hk), q2, h.pb.only o2 (fun k hk => h.sep.d 2 1 (by decide) k hk), h.prb.only o2 (fun k hk => h.sep.d 3 1 (by decide) k hk), h.pc.only o2 (fun k hk => h.sep.d 4 1 (by decide) k hk), h.prc.only o2 (fun k hk => h.sep.d 5 1 (by decide) k hk), h.pd.only o2 (fun k hk => h.sep.d 6 1 (by decide) k hk), h.prd.only o2 (fun k hk => h.sep.d 7 1 (by decide) k hk), h.bk.only o2 (fun hk => h.sep.d 8 1 (by decide) d.BR (by simp [KS.foot, List.getD]) hk), h.sep.step 1 o2 (fresh_cons8 f2) q2.lt⟩
theorem KI.ke_pra (h : KI w wr count bytes d s) {k : Nat} (hk : k ∈ s.E) : k ∉ d.Ra :: s.Ha := fun hm => h.sep.d 9 1 (by decide) k hk hm
theorem KI.st_pb {l2 : List (Int × Int)} (h : KI w wr count bytes d s) (q2 : QInt w2 d.Qb F2 26 count bytes l2) (o2 : Only (d.Qb :: s.Fb) wr w2) (f2 : ∀ k ∈ F2, k ∈ s.Fb ∨ wr.heap.size ≤ k) :
    KI w w2 count bytes d { s with Fb := F2, lb := l2 } :=
  ⟨h.pa.only o2 (fun k hk => h.sep.d 0 2 (by decide) k hk), h.pra.only o2 (fun k hk => h.sep.d 1 2 (by decide) k hk), q2, h.prb.only o2 (fun k hk => h.sep.d 3 2 (by decide) k hk), h.pc.only o2 (fun k hk => h.sep.d 4 2 (by decide) k hk), h.prc.only o2 (fun k hk => h.sep.d 5 2 (by decide) k hk), h.pd.only o2 (fun k hk => h.sep.d 6 2 (by decide) k hk), h.prd.only o2 (fun k hk => h.sep.d 7 2 (by decide) k hk), h.bk.only o2 (fun hk => h.sep.d 8 2 (by decide) d.BR (by simp [KS.foot, List.getD]) hk), h.sep.step 2 o2 (fresh_cons8 f2) q2.lt⟩
theorem KI.ke_pb (h : KI w wr count bytes d s) {k : Nat} (hk : k ∈ s.E) : k ∉ d.Qb :: s.Fb := fun hm => h.sep.d 9 2 (by decide) k hk hm
theorem KI.st_prb {l2 : List (Int × Int)} (h : KI w wr count bytes d s) (q2 : RI w2 d.Rb F2 count bytes l2) (o2 : Only (d.Rb :: s.Hb) wr w2) (f2 : ∀ k ∈ F2, k ∈ s.Hb ∨ wr.heap.size ≤ k) :
    KI w w2 count bytes d { s with Hb := F2, lrb := l2 } :=
  ⟨h.pa.only o2 (fun k hk => h.sep.d 0 3 (by decide) k hk), h.pra.only o2 (fun k hk => h.sep.d 1 3 (by decide) k hk), h.pb.only o2 (fun k hk => h.sep.d 2 3 (by decide) k hk), q2, h.pc.only o2 (fun k hk => h.sep.d 4 3 (by decide) k hk), h.prc.only o2 (fun k hk => h.sep.d 5 3 (by decide) k hk), h.pd.only o2 (fun k hk => h.sep.d 6 3 (by decide) k hk), h.prd.only o2 (fun k hk => h.sep.d 7 3 (by decide) k hk), h.bk.only o2 (fun hk => h.sep.d 8 3 (by decide) d.BR (by simp [KS.foot, List.getD]) hk), h.sep.step 3 o2 (fresh_cons8 f2) q2.lt⟩
theorem KI.ke_prb (h : KI w wr count bytes d s) {k : Nat} (hk : k ∈ s.E) : k ∉ d.Rb :: s.Hb := fun hm => h.sep.d 9 3 (by decide) k hk hm
theorem KI.st_pc {l2 : List ((Int × Int) × Int)} (h : KI w wr count bytes d s) (q2 : QArr w2 d.Qc F2 28 count bytes l2) (o2 : Only (d.Qc :: s.Fc) wr w2) (f2 : ∀ k ∈ F2, k ∈ s.Fc ∨ wr.heap.size ≤ k) :
    KI w w2 count bytes d { s with Fc := F2, lc := l2 } :=
  ⟨h.pa.only o2 (fun k hk => h.sep.d 0 4 (by decide) k hk), h.pra.only o2 (fun k hk => h.sep.d 1 4 (by decide) k hk), h.pb.only o2 (fun k hk => h.sep.d 2 4 (by decide) k hk), h.prb.only o2 (fun k hk => h.sep.d 3 4 (by decide) k hk), q2, h.prc.only o2 (fun k hk => h.sep.d 5 4 (by decide) k hk), h.pd.only o2 (fun k hk => h.sep.d 6 4 (by decide) k hk), h.prd.only o2 (fun k hk => h.sep.d 7 4 (by decide) k hk), h.bk.only o2 (fun hk => h.sep.d 8 4 (by decide) d.BR (by simp [KS.foot, List.getD]) hk), h.sep.step 4 o2 (fresh_cons8 f2) q2.lt⟩
theorem KI.ke_pc (h : KI w wr count bytes d s) {k : Nat} (hk : k ∈ s.E) : k ∉ d.Qc :: s.Fc := fun hm => h.sep.d 9 4 (by decide) k hk hm
theorem KI.st_prc {l2 : List (Int × Int)} (h : KI w wr count bytes d s) (q2 : RI w2 d.Rc F2 count bytes l2) (o2 : Only (d.Rc :: s.Hc) wr w2) (f2 : ∀ k ∈ F2, k ∈ s.Hc ∨ wr.heap.size ≤ k) :
    KI w w2 count bytes d { s with Hc := F2, lrc := l2 } :=
  ⟨h.pa.only o2 (fun k hk => h.sep.d 0 5 (by decide) k hk), h.pra.only o2 (fun k hk => h.sep.d 1 5 (by decide) k hk), h.pb.only o2 (fun k hk => h.sep.d 2 5 (by decide) k hk), h.prb.only o2 (fun k hk => h.sep.d 3 5 (by decide) k hk), h.pc.only o2 (fun k hk => h.sep.d 4 5 (by decide) k hk), q2, h.pd.only o2 (fun k hk => h.sep.d 6 5 (by decide) k hk), h.prd.only o2 (fun k hk => h.sep.d 7 5 (by decide) k hk), h.bk.only o2 (fun hk => h.sep.d 8 5 (by decide) d.BR (by simp [KS.foot, List.getD]) hk), h.sep.step 5 o2 (fresh_cons8 f2) q2.lt⟩
theorem KI.ke_prc (h : KI w wr count bytes d s) {k : Nat} (hk : k ∈ s.E) : k ∉ d.Rc :: s.Hc := fun hm => h.sep.d 9 5 (by decide) k hk hm
theorem KI.st_pd {l2 : List (ByteArray × Int)} (h : KI w wr count bytes d s) (q2 : QStr w2 d.Qd F2 30 count bytes l2) (o2 : Only (d.Qd :: s.Fd) wr w2) (f2 : ∀ k ∈ F2, k ∈ s.Fd ∨ wr.heap.size ≤ k) :
    KI w w2 count bytes d { s with Fd := F2, ld := l2 } :=
  ⟨h.pa.only o2 (fun k hk => h.sep.d 0 6 (by decide) k hk), h.pra.only o2 (fun k hk => h.sep.d 1 6 (by decide) k hk), h.pb.only o2 (fun k hk => h.sep.d 2 6 (by decide) k hk), h.prb.only o2 (fun k hk => h.sep.d 3 6 (by decide) k hk), h.pc.only o2 (fun k hk => h.sep.d 4 6 (by decide) k hk), h.prc.only o2 (fun k hk => h.sep.d 5 6 (by decide) k hk), q2, h.prd.only o2 (fun k hk => h.sep.d 7 6 (by decide) k hk), h.bk.only o2 (fun hk => h.sep.d 8 6 (by decide) d.BR (by simp [KS.foot, List.getD]) hk), h.sep.step 6 o2 (fresh_cons8 f2) q2.lt⟩
theorem KI.ke_pd (h : KI w wr count bytes d s) {k : Nat} (hk : k ∈ s.E) : k ∉ d.Qd :: s.Fd := fun hm => h.sep.d 9 6 (by decide) k hk hm
theorem KI.st_prd {l2 : List (Int × Int)} (h : KI w wr count bytes d s) (q2 : RI w2 d.Rd F2 count bytes l2) (o2 : Only (d.Rd :: s.Hd) wr w2) (f2 : ∀ k ∈ F2, k ∈ s.Hd ∨ wr.heap.size ≤ k) :
    KI w w2 count bytes d { s with Hd := F2, lrd := l2 } :=
  ⟨h.pa.only o2 (fun k hk => h.sep.d 0 7 (by decide) k hk), h.pra.only o2 (fun k hk => h.sep.d 1 7 (by decide) k hk), h.pb.only o2 (fun k hk => h.sep.d 2 7 (by decide) k hk), h.prb.only o2 (fun k hk => h.sep.d 3 7 (by decide) k hk), h.pc.only o2 (fun k hk => h.sep.d 4 7 (by decide) k hk), h.prc.only o2 (fun k hk => h.sep.d 5 7 (by decide) k hk), h.pd.only o2 (fun k hk => h.sep.d 6 7 (by decide) k hk), q2, h.bk.only o2 (fun hk => h.sep.d 8 7 (by decide) d.BR (by simp [KS.foot, List.getD]) hk), h.sep.step 7 o2 (fresh_cons8 f2) q2.lt⟩
theorem KI.ke_prd (h : KI w wr count bytes d s) {k : Nat} (hk : k ∈ s.E) : k ∉ d.Rd :: s.Hd := fun hm => h.sep.d 9 7 (by decide) k hk hm
end

section
variable {α : Type}
/-- The document's list beside a list of things. -/
def lift (f : α → Int) (l : List (α × Int)) : List (Int × Int) := l.map fun p => (f p.1, p.2)
theorem lift_len (f : α → Int) (l : List (α × Int)) : (lift f l).length = l.length := by simp [lift]
theorem lift_sum (f : α → Int) (l : List (α × Int)) : qsum (lift f l) = qsum l := by
  induction l with
  | nil => rfl
  | cons p l ih => rw [lift, List.map_cons, qsum_cons, qsum_cons]; exact congrArg (p.2 + ·) ih
theorem lift_room (f : α → Int) (count bytes : Int) (l : List (α × Int)) (s : Int) : qroom count bytes (lift f l) s = qroom count bytes l s := by
  unfold qroom
  rw [lift_len, lift_sum]
theorem lift_push (f : α → Int) (count bytes : Int) (l : List (α × Int)) (x : α) (s : Int) : lift f (qpush count bytes l x s) = qpush count bytes (lift f l) (f x) s := by
  unfold qpush
  rw [lift_room]
  split
  · simp [lift]
  · rfl
theorem lift_tail (f : α → Int) (l : List (α × Int)) : lift f l.tail = (lift f l).tail := by cases l <;> rfl
theorem lift_has (f : α → Int) (l : List (α × Int)) : qhas (lift f l) = qhas l := by cases l <;> rfl
theorem lift_head (f : α → Int) (l : List (α × Int)) (z : α) (hz : f z = 0) : qhead (lift f l) 0 = f (qhead l z) := by
  cases l
  · exact hz.symm
  · rfl
end

set_option maxRecDepth 100000 in
set_option maxHeartbeats 400000 in
theorem half_any (x : Int) (h1 : -9223372036854775808 ≤ x) (h2 : x ≤ 9223372036854775807) (w : World) : Calls Try.prog 26 #[.int .i64 x] w fun e w' => e = .returned (.int .i64 (x.tdiv 2)) ∧ w = w' := by
  by_cases h0 : 0 ≤ x
  · rw [Int.tdiv_eq_ediv_of_nonneg h0]
    go_enter Try.func26, Try.ntmps26
    go_wp2
    go_ret
    exact ⟨rfl, rfl⟩
  · go_enter Try.func26, Try.ntmps26
    go_wp2
    go_ret
    exact ⟨rfl, rfl⟩
set_option maxRecDepth 100000 in
set_option maxHeartbeats 400000 in
theorem sized_any (a : ByteArray) (y : Int) (A : Option Addr) (n c : Nat) (w : World) : Calls Try.prog 25 #[.agg #[.string a, .int .i64 y, .slice A n c]] w fun e w' => e = .returned (.int .i64 y) ∧ Only [] w w' := by
  go_enter Try.func25, Try.ntmps25
  go_wp2
  go_ret
  exact ⟨rfl, (Only.refl [] w).alloc _⟩
set_option maxRecDepth 100000 in
set_option maxHeartbeats 400000 in
theorem flat_any (x y : Int) (w : World) : Calls Try.prog 28 #[.agg #[.int .i64 x, .int .i64 y]] w fun e w' => e = .returned (.int .i64 y) ∧ Only [] w w' := by
  go_enter Try.func28, Try.ntmps28
  go_wp2
  go_ret
  exact ⟨rfl, (Only.refl [] w).alloc _⟩
set_option maxRecDepth 100000 in
set_option maxHeartbeats 400000 in
theorem letters_any (a : ByteArray) (w : World) : Calls Try.prog 30 #[.string a] w fun e w' => e = .returned (.int .i64 (a.size : Int)) ∧ w = w' := by
  go_enter Try.func30, Try.ntmps30
  go_wp2
  go_ret
  exact ⟨rfl, rfl⟩
theorem half_enters : ∀ args w, (callFunc 26 args).run Try.prog w = .ok (.enter 26 args) w := enters_of Try.func26 (by kernel_rfl) rfl
theorem sized_enters : ∀ args w, (callFunc 25 args).run Try.prog w = .ok (.enter 25 args) w := enters_of Try.func25 (by kernel_rfl) rfl
theorem flat_enters : ∀ args w, (callFunc 28 args).run Try.prog w = .ok (.enter 28 args) w := enters_of Try.func28 (by kernel_rfl) rfl
theorem letters_enters : ∀ args w, (callFunc 30 args).run Try.prog w = .ok (.enter 30 args) w := enters_of Try.func30 (by kernel_rfl) rfl
end Go.Proofs.Ytjlnkfbhbiinoaa
