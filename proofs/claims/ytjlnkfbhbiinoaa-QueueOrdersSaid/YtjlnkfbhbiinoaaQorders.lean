/-
  QueueOrders: what is popped comes in the order in which it was taken, each once; the bounds are kept; a refusal has one of the two reasons: the law's own walk.
-/
import Derived.Test.YtjlnkfbhbiinoaaQnA
import Derived.Test.YtjlnkfbhbiinoaaQk
import Derived.Test.YtjlnkfbhbiinoaaQnews
import Derived.Test.YtjlnkfbhbiinoaaOps19
import Derived.ChangeKeysEq
namespace Go.Proofs.Ytjlnkfbhbiinoaa
open Go.RowKit
set_option linter.unusedVariables false
set_option linter.unusedSimpArgs false

set_option maxRecDepth 100000 in
set_option maxHeartbeats 400000 in
theorem flat_any (x y : Int) (w : World) : Calls Try.prog 28 #[.agg #[.int .i64 x, .int .i64 y]] w fun e w' => e = .returned (.int .i64 y) ∧ Only [] w w' := by
  go_enter Try.func28, Try.ntmps28
  go_wp2
  go_ret
  exact ⟨rfl, (Only.refl [] w).alloc _⟩
theorem flat_enters : ∀ args w, (callFunc 28 args).run Try.prog w = .ok (.enter 28 args) w := enters_of Try.func28 (by kernel_rfl) rfl
theorem Try.infoArr : (Try.prog.info? 51).map (fun i => (i.zero, i.size, i.bytes)) = some (some (.agg #[.int .i64 0, .int .i64 0]), 2, 16) := by kernel_rfl

theorem equalIn_arr2 (a b c d : Int) (w : World) : (Op.equalIn 10000 51 (.agg #[.int .i64 a, .int .i64 b]) (.agg #[.int .i64 c, .int .i64 d])).run Try.prog w = .ok (a == c && b == d) w := by
  obtain ⟨i, hi, _⟩ := info_parts (show (Try.prog.info? 3).map (fun i => (i.zero, i.size, i.bytes)) = some (some (.int .i64 0), 1, 8) by kernel_rfl)
  rw [run_equalIn_array w 9999 _ _ Try.underlying51 hi]
  have hc : Try.prog.cellsOf 3 = 1 := by kernel_rfl
  have u : Try.prog.underlying 3 = some (.int .i64) := Try.underlying3
  rw [hc]
  have hl : List.range 2 = [0, 1] := rfl
  rw [hl]
  have hk : Try.prog.plainKey 3 = true := by kernel_rfl
  have p0 := run_part_plain (P := Try.prog) w hk (xs := #[.int .i64 a, .int .i64 b]) (off := 0) (v := .int .i64 a) rfl
  have p1 := run_part_plain (P := Try.prog) w hk (xs := #[.int .i64 a, .int .i64 b]) (off := 1) (v := .int .i64 b) rfl
  have r0 := run_part_plain (P := Try.prog) w hk (xs := #[.int .i64 c, .int .i64 d]) (off := 0) (v := .int .i64 c) rfl
  have r1 := run_part_plain (P := Try.prog) w hk (xs := #[.int .i64 c, .int .i64 d]) (off := 1) (v := .int .i64 d) rfl
  have e0 := run_equalIn_int w 9998 3 .i64 .i64 a c u
  have e1 := run_equalIn_int w 9998 3 .i64 .i64 b d u
  simp only [Op.eqItems, Sem.run_bind, Nat.zero_mul, Nat.one_mul, p0, p1, r0, r1, e0, e1, Result.andThen_ok]
  cases h : (a == c)
  · simp
  · cases h2 : (b == d) <;> simp [p1, r1, e1, h2]
theorem guard_arr2 : Try.prog.eqGuardType Try.prog.depth 51 = false := by kernel_rfl

/-- The state of the law's loops: T: what was taken; p of them have been popped; the queue holds the others. -/
structure OrdInv (w wr : World) (count bytes : Int) (Q : Nat) (F FT : List Nat) (A : Option Addr) (c : Nat) (T : List (Int × Int)) (p : Nat) (l : List ((Int × Int) × Int)) : Prop where
  q : QArr wr Q F 28 count bytes l
  r : Row wr 51 2 FT A T.length c (T.flatMap encArr)
  d : l.map Prod.fst = T.drop p
  p : p ≤ T.length
  s : ∀ x ∈ l, x.2 = max x.1.2 0
  a : ∀ k ∈ Q :: F, k ∉ FT
  o : Only [] w wr
  fq : ∀ k ∈ Q :: F, w.heap.size ≤ k
  ft : ∀ k ∈ FT, w.heap.size ≤ k

theorem encArr_at (T : List (Int × Int)) (k : Nat) (h : k < T.length) : (T.flatMap encArr)[k * 2]? = some (.int .i64 T[k].1) ∧ (T.flatMap encArr)[k * 2 + 1]? = some (.int .i64 T[k].2) := by
  induction T generalizing k with
  | nil => simp at h
  | cons o z ih =>
    cases k with
    | zero => exact ⟨rfl, rfl⟩
    | succ k =>
      obtain ⟨a, b⟩ := ih k (by simpa using h)
      simp only [List.flatMap_cons, encArr, List.cons_append, List.nil_append, List.getElem_cons_succ]
      rw [show (k + 1) * 2 = k * 2 + 1 + 1 by omega]
      exact ⟨a, b⟩

section
variable {w wr w2 : World} {count bytes : Int} {Q : Nat} {F F2 FT : List Nat} {A : Option Addr} {c p : Nat} {T : List (Int × Int)} {l : List ((Int × Int) × Int)}
theorem OrdInv.len (h : OrdInv w wr count bytes Q F FT A c T p l) : (l.length : Int) = (T.length : Int) - (p : Int) := by
  have := congrArg List.length h.d
  rw [List.length_map, List.length_drop] at this
  have := h.p
  omega
theorem OrdInv.only (h : OrdInv w wr count bytes Q F FT A c T p l) (ho : Only [] wr w2) : OrdInv w w2 count bytes Q F FT A c T p l :=
  ⟨h.q.only ho (by simp), h.r.only ho (by simp), h.d, h.p, h.s, h.a, h.o.trans ho (by simp), h.fq, h.ft⟩
/-- The next of those that were taken is at the queue's head. -/
theorem OrdInv.head (h : OrdInv w wr count bytes Q F FT A c T p l) (hp : p < T.length) : qhead l (0, 0) = T[p] ∧ qhas l = true ∧ (l.tail).map Prod.fst = T.drop (p + 1) ∧ qsum l = qsum l.tail + max (T[p]).2 0 := by
  have hd := h.d
  rw [List.drop_eq_getElem_cons hp] at hd
  cases l with
  | nil => cases hd
  | cons x l =>
    simp only [List.map_cons, List.cons.injEq] at hd
    have hs := h.s x (by simp)
    refine ⟨hd.1, rfl, hd.2, ?_⟩
    rw [qsum_cons, hs, hd.1, List.tail_cons]
    omega
theorem OrdInv.none_ (h : OrdInv w wr count bytes Q F FT A c T p l) (hp : ¬ p < T.length) : l = [] := by
  have := h.len
  have := h.p
  exact List.eq_nil_of_length_eq_zero (by omega)
/-- One more was taken. -/
theorem OrdInv.push {W1 W2 W3 w3 : World} {g cap : Nat} {a : Int × Int} (h : OrdInv w wr count bytes Q F FT A c T p l) (o1 : Only [] wr W1) (q2 : QArr W2 Q F2 28 count bytes (l ++ [(a, max a.2 0)])) (o2 : Only (Q :: F) W1 W2) (f2 : ∀ k ∈ F2, k ∈ F ∨ W1.heap.size ≤ k)
    (o3 : Only [] W2 W3) (r4 : Row w3 51 2 [g] (some ⟨g, 0, none⟩) (T.length + 1) cap (T.flatMap encArr ++ encArr a)) (o4 : Only FT W3 w3) (hg : g ∈ FT ∨ W3.heap.size ≤ g) :
    OrdInv w w3 count bytes Q F2 [g] (some ⟨g, 0, none⟩) cap (T ++ [a]) p (l ++ [(a, max a.2 0)]) := by
  have hFT : ∀ k ∈ Q :: F2, k ∉ FT := by
    intro k hk hm
    rcases List.mem_cons.1 hk with rfl | hk
    · exact h.a k (by simp) hm
    · rcases f2 k hk with h1 | h1
      · exact h.a k (by simp [h1]) hm
      · have := h.r.lt k hm
        have := o1.size
        omega
  have o34 : Only FT W2 w3 := (o3.mono (G := FT) (by simp)).trans o4 (fun k hk => .inl hk)
  refine ⟨q2.only o34 hFT, ?_, ?_, ?_, ?_, ?_, ?_, ?_, ?_⟩
  · rw [List.length_append, List.flatMap_append]
    simpa using r4
  · rw [List.map_append, h.d, List.drop_append_of_le_length h.p]
    rfl
  · rw [List.length_append]
    have := h.p
    omega
  · intro x hx
    rcases List.mem_append.1 hx with hx | hx
    · exact h.s x hx
    · have : x = (a, max a.2 0) := by simpa using hx
      subst this
      rfl
  · intro k hk hm
    have hkg : k = g := by simpa using hm
    subst hkg
    rcases hg with h1 | h1
    · exact hFT k hk h1
    · have := q2.lt k hk
      have := o3.size
      omega
  · exact ((h.o.trans o1 (by simp)).trans o2 (fun k hk => .inr (h.fq k hk))).trans o34 (fun k hk => .inr (h.ft k hk))
  · intro k hk
    rcases List.mem_cons.1 hk with rfl | hk
    · exact h.fq k (by simp)
    · rcases f2 k hk with h1 | h1
      · exact h.fq k (by simp [h1])
      · have := h.o.size
        have := o1.size
        omega
  · intro k hk
    have hkg : k = g := by simpa using hk
    subst hkg
    rcases hg with h1 | h1
    · exact h.ft k h1
    · have := h.o.size
      have := o1.size
      have := o2.size
      have := o3.size
      omega
/-- Behind a call on the queue that leaves what it holds. -/
theorem OrdInv.queue {l2 : List ((Int × Int) × Int)} (h : OrdInv w wr count bytes Q F FT A c T p l) (q2 : QArr w2 Q F2 28 count bytes l2) (o2 : Only (Q :: F) wr w2) (f2 : ∀ k ∈ F2, k ∈ F ∨ wr.heap.size ≤ k)
    {p2 : Nat} (hd : l2.map Prod.fst = T.drop p2) (hp : p2 ≤ T.length) (hs : ∀ x ∈ l2, x.2 = max x.1.2 0) : OrdInv w w2 count bytes Q F2 FT A c T p2 l2 := by
  refine ⟨q2, h.r.only o2 (fun k hk hm => h.a k hm hk), hd, hp, hs, ?_, h.o.trans o2 (fun k hk => .inr (h.fq k hk)), ?_, h.ft⟩
  · intro k hk hm
    rcases List.mem_cons.1 hk with rfl | hk
    · exact h.a k (by simp) hm
    · rcases f2 k hk with h1 | h1
      · exact h.a k (by simp [h1]) hm
      · have := h.r.lt k hm
        omega
  · intro k hk
    rcases List.mem_cons.1 hk with rfl | hk
    · exact h.fq k (by simp)
    · rcases f2 k hk with h1 | h1
      · exact h.fq k (by simp [h1])
      · exact Nat.le_trans h.o.size h1
end

def OrdRel (w : World) (count bytes : Int) (n Q : Nat) (v9 v10 v11 v12 : Value) (wr : World) : Prop :=
  ∃ (k nT p c : Nat) (A : Option Addr) (held : Int) (F FT : List Nat) (T : List (Int × Int)) (l : List ((Int × Int) × Int)), k ≤ n ∧ nT ≤ k ∧ v9 = .slice A nT c ∧ v10 = .int .i64 p ∧ v11 = .int .i64 held ∧ v12 = .int .i64 k ∧ p ≤ nT ∧ 0 ≤ held ∧ held ≤ bytes ∧ Hid (nT = T.length) ∧ Hid (held = qsum l) ∧ Hid (OrdInv w wr count bytes Q F FT A c T p l)

def OrdRel2 (w : World) (count bytes : Int) (nT Q : Nat) (FT : List Nat) (A : Option Addr) (c : Nat) (T : List (Int × Int)) (v10 : Value) (wr : World) : Prop :=
  ∃ (p : Nat) (F : List Nat) (l : List ((Int × Int) × Int)), v10 = .int .i64 p ∧ p ≤ nT ∧ Hid (OrdInv w wr count bytes Q F FT A c T p l)

set_option maxRecDepth 100000 in
set_option maxHeartbeats 6400000 in
theorem queueOrders_yes (count bytes : Int) (A0 : Option Addr) (n c0 : Nat) (z : List (Bool × Int)) (w : World) (h0 : 0 ≤ count) (h1 : count ≤ 64) (h2 : 0 ≤ bytes) (h3 : bytes ≤ 9223372036854775807)
    (hz : z.length = n) (hA : Arg w 2 A0 n (z.flatMap encOp19)) (hn : n * 16 ≤ 140737488351232) :
    Calls Try.prog 6 #[.int .i64 count, .int .i64 bytes, .slice A0 n c0] w fun e w' => e = .returned (.bool true) ∧ Only [] w w' := by
  obtain ⟨i0, hi, hz0, hz1, hz2⟩ := info_parts Try.infoArr
  have HI := Lib.hid hi; clear hi
  have HZ0 := Lib.hid hz0; clear hz0
  have HZ1 := Lib.hid hz1; clear hz1
  have HZ2 := Lib.hid hz2; clear hz2
  have HA := Lib.hid hA; clear hA
  have HZ := Lib.hid hz; clear hz
  go_enter Try.func6, Try.ntmps6
  go_wp2_with fail
  refine (newArr_ok count bytes _ _ h0 h1 h2).mono ?_
  rintro e w1 ⟨rfl, hw⟩
  have q0 : QArr w1 w.heap.size [] 28 count bytes [] := by rw [← hw]; exact QI.new w _ count bytes h0 h1 h2 h3
  have HO0 := Lib.hid (show Only [] w w1 by rw [← hw]; exact (Only.refl [] w).alloc _)
  have HQ0 := Lib.hid q0
  clear hw q0
  go_wp2_with fail
  refine (known_any _).mono ?_
  rintro e w2 ⟨rfl, ho⟩
  have HINV : Hid (OrdInv w w2 count bytes w.heap.size [] [] none 0 [] 0 []) := ⟨HQ0.out.only ho (by simp), Row.nil _ _ _ _, rfl, Nat.le_refl _, by simp, by simp, HO0.out.trans ho (by simp), by simp, by simp⟩
  clear ho HQ0 HO0
  go_wp2_with fail
  generalize hQ : w.heap.size = Q at *
  have HQE := Lib.hid hQ; clear hQ
  go_loopw [9, 10, 11, 12] (fun v9 v10 v11 v12 wr => OrdRel w count bytes n Q v9 v10 v11 v12 wr) (fun _ _ _ i _ => n - (intOf i).toNat)
  case atStart => exact ⟨0, 0, 0, 0, none, 0, [], [], [], [], Nat.zero_le _, Nat.le_refl _, rfl, rfl, rfl, rfl, Nat.le_refl _, Int.le_refl _, h2, rfl, rfl, HINV.out⟩
  case round =>
    clear HINV
    obtain ⟨k, nT, p, c, A, held, F, FT, T, l, hk, hTk, rfl, rfl, rfl, rfl, hpT, hh0, hhb, HT, HH, HINV⟩ := hrel
    by_cases hlt : k < n
    · obtain ⟨b, off, rfl, hb, hc⟩ := HA.out.2 (by omega)
      obtain ⟨z0, z1⟩ := encOp19_at z k (by rw [HZ.out]; exact hlt)
      have e0 : wr.cell? ⟨b, off + k * 2, none⟩ = some (.bool (z[k]'(by rw [HZ.out]; exact hlt)).1) := HINV.out.o.cell (hc _ _ z0) (by simp)
      have e1 : wr.cell? ⟨b, off + k * 2 + 1, none⟩ = some (.int .i64 (z[k]'(by rw [HZ.out]; exact hlt)).2) := HINV.out.o.cell (hc _ _ z1) (by simp)
      clear hc z0 z1 hb
      generalize (z[k]'(by rw [HZ.out]; exact hlt)).1 = o at *
      generalize (z[k]'(by rw [HZ.out]; exact hlt)).2 = x at *
      obtain ⟨t, ht⟩ : ∃ t : Int, max x 0 = t := ⟨_, rfl⟩
      have ht0 : 0 ≤ t := by omega
      have HTX := Lib.hid ht
      cases o
      · by_cases hx : 0 ≤ x
        all_goals
          have HX := Lib.hid (Blk.new wr 45 #[.bool false, .int .i64 x])
          have HOa := Lib.hid ((Only.refl [] wr).alloc (.cells #[.bool false, .int .i64 x] 45))
          clear HTX ht
          go_wp2_with fail
          generalize wr.alloc (.cells #[.bool false, .int .i64 x] 45) = W1 at *
          have HIa := Lib.hid (HINV.out.only HOa.out)
          obtain ⟨⟨a1, a2⟩, ha⟩ : ∃ a, qhead l (0, 0) = a := ⟨_, rfl⟩
          refine (popArr_any Q F _ count bytes l (a1, a2) _ ha HIa.out.q).mono ?_
          rintro e W2 ⟨rfl, F2, q2, o2, f2⟩
          have HOb := Lib.hid ((Only.refl [] W2).alloc (.cells #[.int .i64 a1, .int .i64 a2] 51))
          by_cases hp : p < nT
          · obtain ⟨h1, h2, h3, h4⟩ := HINV.out.head (by rw [← HT.out]; exact hp)
            rw [ha] at h1
            have HI2 := Lib.hid (HIa.out.queue q2 o2 f2 h3 (by have := HT.out; omega) (fun y hy => HIa.out.s y (List.mem_of_mem_tail hy)))
            have hsd := q2.s
            rw [← h1] at h4
            have hnn := qsum_nonneg l.tail q2.pos
            simp only at h4
            have HB : Hid (qsum l.tail = held - max a2 0) := by have := HH.out; unfold Hid; omega
            have hm8 : max a2 0 ≤ held := by have := HH.out; omega
            obtain ⟨z0, z1⟩ := encArr_at T p (by rw [← HT.out]; exact hp)
            rw [← h1] at z0 z1
            simp only at z0 z1
            obtain ⟨g, rfl, hF, t0⟩ := HI2.out.r.cellAt z0
            obtain ⟨g', eg, _, t1⟩ := HI2.out.r.cellAt z1
            injection eg with eg
            injection eg with eg
            subst eg
            have hgl : g < W2.heap.size := HI2.out.r.lt g (by rw [hF]; simp)
            have heq : ∀ W, (Op.equalIn 10000 51 (.agg #[.int .i64 a1, .int .i64 a2]) (.agg #[.int .i64 a1, .int .i64 a2])).run Try.prog W = .ok true W := fun W => by rw [equalIn_arr2]; simp
            have hgd := guard_arr2
            rw [h2]
            clear ha q2 o2 f2 h1 h2 h3 h4 hsd hnn z0 z1 hF HOa HX
            by_cases ha2 : 0 ≤ a2
            · rw [show max a2 0 = a2 by omega] at HB hm8
              go_wp2_with fail
              go_quiet (fail)
              go_wp2_with fail
              have HI3 := Lib.hid (HI2.out.only (HOb.out.drewN nq))
              generalize (W2.alloc (.cells #[.int .i64 a1, .int .i64 a2] 51)).drewN nq = W3 at *
              have ht9 := HT.out
              have hL := HI3.out.len
              have hN := HI3.out.q.n
              have hS := HI3.out.q.s
              have hLc : (nT : Int) - ((p : Int) + 1) ≤ count := by omega
              have hBb : held - a2 ≤ bytes := by omega
              have HL := Lib.hid (show ((l.tail).length : Int) = (nT : Int) - ((p : Int) + 1) by omega)
              clear hL hN hS ht9
              refine (lenArr_any _ _ _ _ _ _ _ HI3.out.q).mono ?_
              rintro e w' ⟨rfl, rfl⟩
              rw [HL.out]
              go_wp2_with fail
              refine (lenArr_any _ _ _ _ _ _ _ HI3.out.q).mono ?_
              rintro e w' ⟨rfl, rfl⟩
              rw [HL.out]
              go_wp2_with fail
              refine (bytesArr_any _ _ _ _ _ _ _ HI3.out.q).mono ?_
              rintro e w' ⟨rfl, rfl⟩
              rw [HB.out]
              go_wp2_with fail
              go_roundw
              have hneg : 0 ≤ held - a2 := by omega
              case rel => exact ⟨k + 1, nT, p + 1, c, some ⟨g, 0, none⟩, _, F2, FT, T, l.tail, by omega, by omega, rfl, by go_num, rfl, by go_num, by omega, by omega, by omega, HT, HB.out.symm, HI3⟩
              case measure => simp [intOf]; omega
            · rw [show max a2 0 = 0 by omega, Int.sub_zero] at HB
              clear hm8
              go_wp2_with fail
              go_quiet (fail)
              go_wp2_with fail
              have HI3 := Lib.hid (HI2.out.only (HOb.out.drewN nq))
              generalize (W2.alloc (.cells #[.int .i64 a1, .int .i64 a2] 51)).drewN nq = W3 at *
              have ht9 := HT.out
              have hL := HI3.out.len
              have hN := HI3.out.q.n
              have hS := HI3.out.q.s
              have hLc : (nT : Int) - ((p : Int) + 1) ≤ count := by omega
              have hBb : held ≤ bytes := by omega
              have HL := Lib.hid (show ((l.tail).length : Int) = (nT : Int) - ((p : Int) + 1) by omega)
              clear hL hN hS ht9
              refine (lenArr_any _ _ _ _ _ _ _ HI3.out.q).mono ?_
              rintro e w' ⟨rfl, rfl⟩
              rw [HL.out]
              go_wp2_with fail
              refine (lenArr_any _ _ _ _ _ _ _ HI3.out.q).mono ?_
              rintro e w' ⟨rfl, rfl⟩
              rw [HL.out]
              go_wp2_with fail
              refine (bytesArr_any _ _ _ _ _ _ _ HI3.out.q).mono ?_
              rintro e w' ⟨rfl, rfl⟩
              rw [HB.out]
              go_wp2_with fail
              go_roundw
              have hneg : 0 ≤ held := by omega
              case rel => exact ⟨k + 1, nT, p + 1, c, some ⟨g, 0, none⟩, _, F2, FT, T, l.tail, by omega, by omega, rfl, by go_num, rfl, by go_num, by omega, by omega, by omega, HT, HB.out.symm, HI3⟩
              case measure => simp [intOf]; omega
          · have HN0 := HINV.out.none_ (by rw [← HT.out]; exact hp)
            subst HN0
            have HI2 := Lib.hid (HIa.out.queue (l2 := []) q2 o2 f2 HIa.out.d HIa.out.p HIa.out.s)
            have HI3 := Lib.hid (HI2.out.only HOb.out)
            have HB : Hid (qsum ([] : List ((Int × Int) × Int)) = held) := HH.out.symm
            rw [show qhas ([] : List ((Int × Int) × Int)) = false from rfl]
            clear ha q2 o2 f2
            have ht9 := HT.out
            have hL := HI3.out.len
            have hN := HI3.out.q.n
            have hS := HI3.out.q.s
            have hLc : (nT : Int) - (p : Int) ≤ count := by omega
            have hBb : held ≤ bytes := by omega
            have HL := Lib.hid (show ((([] : List ((Int × Int) × Int))).length : Int) = (nT : Int) - (p : Int) by omega)
            clear hL hN hS ht9
            go_wp2_with fail
            refine (lenArr_any _ _ _ _ _ _ _ HI3.out.q).mono ?_
            rintro e w' ⟨rfl, rfl⟩
            rw [HL.out]
            go_wp2_with fail
            refine (lenArr_any _ _ _ _ _ _ _ HI3.out.q).mono ?_
            rintro e w' ⟨rfl, rfl⟩
            rw [HL.out]
            go_wp2_with fail
            refine (bytesArr_any _ _ _ _ _ _ _ HI3.out.q).mono ?_
            rintro e w' ⟨rfl, rfl⟩
            rw [HB.out]
            go_wp2_with fail
            go_roundw
            case rel => exact ⟨k + 1, nT, p, c, A, held, F2, FT, T, [], by omega, by omega, rfl, rfl, rfl, by go_num, hpT, hh0, hhb, HT, HH, HI3⟩
            case measure => simp [intOf]; omega

      · by_cases hx : 0 ≤ x
        · obtain rfl : x = t := by omega
          clear ht
          have HX := Lib.hid (Blk.new wr 45 #[.bool true, .int .i64 x])
          have HOa := Lib.hid ((Only.refl [] wr).alloc (.cells #[.bool true, .int .i64 x] 45))
          go_wp2_with fail
          generalize wr.alloc (.cells #[.bool true, .int .i64 x] 45) = W1 at *
          have HIa := Lib.hid (HINV.out.only HOa.out)
          refine (pushArr_any Q F _ count bytes x l ((k : Int), x) _ flat_enters (flat_any _ x) HIa.out.q).mono ?_
          rintro e W2 ⟨rfl, F2, q2, o2, f2⟩
          have x1 := o2.cell (p := ⟨wr.heap.size, 1, none⟩) (HX.out.cell 1) (fun hm => by have := HINV.out.q.lt _ hm; simp at this)
          cases hqr : qroom count bytes l x
          · unfold qpush at q2
            rw [hqr, if_neg Bool.false_ne_true] at q2
            have hno : (nT : Int) - (p : Int) < count → ¬ x ≤ bytes - held := by
              intro h1 h2
              have e1 := HINV.out.len
              have e2 := HT.out
              have e3 := HH.out
              rw [qroom_yes (by omega) (by omega)] at hqr
              cases hqr
            have HI2 := Lib.hid (HIa.out.queue q2 o2 f2 HIa.out.d HIa.out.p HIa.out.s)
            have HB : Hid (qsum l = held) := HH.out.symm
            clear hqr q2 o2 f2 x1
            by_cases hcc : (nT : Int) - (p : Int) < count
            · have hno2 := hno hcc
              have hd2 : decide (x ≤ bytes - held) = false := by simpa using hno2
              clear hno
              have ht9 := HT.out
              have hL := HI2.out.len
              have hN := HI2.out.q.n
              have hS := HI2.out.q.s
              have hLc : (nT : Int) - (p : Int) ≤ count := by omega
              have hBb : held ≤ bytes := by omega
              have HL := Lib.hid (show ((l).length : Int) = (nT : Int) - (p : Int) by omega)
              clear hL hN hS ht9
              go_wp2_with fail
              refine (lenArr_any _ _ _ _ _ _ _ HI2.out.q).mono ?_
              rintro e w' ⟨rfl, rfl⟩
              rw [HL.out]
              go_wp2_with fail
              refine (lenArr_any _ _ _ _ _ _ _ HI2.out.q).mono ?_
              rintro e w' ⟨rfl, rfl⟩
              rw [HL.out]
              go_wp2_with fail
              refine (bytesArr_any _ _ _ _ _ _ _ HI2.out.q).mono ?_
              rintro e w' ⟨rfl, rfl⟩
              rw [HB.out]
              go_wp2_with fail
              go_roundw
              case rel => exact ⟨k + 1, nT, p, c, A, held, F2, FT, T, l, by omega, by omega, rfl, rfl, rfl, by go_num, hpT, hh0, hhb, HT, HH, HI2⟩
              case measure => simp [intOf]; omega
            · have hd2 : decide ((nT : Int) - (p : Int) < count) = false := by simpa using hcc
              clear hno
              have ht9 := HT.out
              have hL := HI2.out.len
              have hN := HI2.out.q.n
              have hS := HI2.out.q.s
              have hLc : (nT : Int) - (p : Int) ≤ count := by omega
              have hBb : held ≤ bytes := by omega
              have HL := Lib.hid (show ((l).length : Int) = (nT : Int) - (p : Int) by omega)
              clear hL hN hS ht9
              go_wp2_with fail
              refine (lenArr_any _ _ _ _ _ _ _ HI2.out.q).mono ?_
              rintro e w' ⟨rfl, rfl⟩
              rw [HL.out]
              go_wp2_with fail
              refine (lenArr_any _ _ _ _ _ _ _ HI2.out.q).mono ?_
              rintro e w' ⟨rfl, rfl⟩
              rw [HL.out]
              go_wp2_with fail
              refine (bytesArr_any _ _ _ _ _ _ _ HI2.out.q).mono ?_
              rintro e w' ⟨rfl, rfl⟩
              rw [HB.out]
              go_wp2_with fail
              go_roundw
              case rel => exact ⟨k + 1, nT, p, c, A, held, F2, FT, T, l, by omega, by omega, rfl, rfl, rfl, by go_num, hpT, hh0, hhb, HT, HH, HI2⟩
              case measure => simp [intOf]; omega

          · unfold qpush at q2
            rw [hqr, if_pos rfl] at q2
            have HQ2 := Lib.hid q2
            have HO2 := Lib.hid o2
            have HF2 := Lib.hid f2
            have HROW := Lib.hid (show Row W2 51 2 FT A nT c (T.flatMap encArr) by rw [HT.out]; exact HIa.out.r.only o2 (fun k hk hm => HINV.out.a k hm hk))
            have HB : Hid (qsum (l ++ [(((k : Int), x), max x 0)]) = held + x) := by have := HH.out; unfold Hid; rw [qsum_snoc, ← this]; omega
            have hb8 := HB.out
            have hs8 : held + x ≤ bytes := by have := q2.s; omega
            clear hqr q2 o2 f2 hb8
            go_wp2_with (at_builtin; refine wpList_append_row _ rfl (.tmp 67) (.tmp 72) 67 rfl 51 i0 _ 2 16 Try.underlying67 HI.out HZ0.out HZ1.out HZ2.out rfl (by decide) FT A nT c (T.flatMap encArr) rfl (HROW.out.alloc _) ⟨W2.heap.size, 0, none⟩ 1 1 [.int .i64 (k : Int), .int .i64 x] rfl rfl (news_of_new _ _ _) (by simp [Value.oneCell']) (by decide) (by unfold maxLen; omega) (by omega) ?_; intro g1 cap w4 hR4 hO4 hg4; have HR4 := Lib.hid hR4; have HO4 := Lib.hid hO4; have HG4 := Lib.hid hg4; clear hR4 hO4 hg4)
            have HI3 : Hid (OrdInv w w4 count bytes Q F2 [g1] (some ⟨g1, 0, none⟩) cap (T ++ [((k : Int), x)]) p (l ++ [(((k : Int), x), max x 0)])) :=
              HINV.out.push (W3 := W2.alloc (.cells #[.int .i64 (k : Int), .int .i64 x] 51)) HOa.out HQ2.out HO2.out HF2.out ((Only.refl [] W2).alloc _) (by rw [← HT.out]; exact HR4.out) HO4.out HG4.out
            have HT3 : Hid (nT + 1 = (T ++ [((k : Int), x)]).length) := by have := HT.out; unfold Hid; rw [List.length_append, this]; rfl
            have ht9 := HT3.out
            have hb9 := HB.out
            have hs9 := HI3.out.q.s
            have hp9 := HI3.out.q.b
            have ht8 : 0 ≤ held + x := by omega
            have hL := HI3.out.len
            have hN := HI3.out.q.n
            have hS := HI3.out.q.s
            have hLc : (nT : Int) + 1 - (p : Int) ≤ count := by omega
            have hBb : held + x ≤ bytes := by omega
            have HL := Lib.hid (show ((l ++ [(((k : Int), x), max x 0)]).length : Int) = (nT : Int) + 1 - (p : Int) by omega)
            clear hL hN hS ht9 hb9 hs9 hp9
            go_wp2_with fail
            generalize hy9 : held + x = y9 at *
            have HY := Lib.hid hy9
            clear hy9
            refine (lenArr_any _ _ _ _ _ _ _ HI3.out.q).mono ?_
            rintro e w' ⟨rfl, rfl⟩
            rw [HL.out]
            go_wp2_with fail
            refine (lenArr_any _ _ _ _ _ _ _ HI3.out.q).mono ?_
            rintro e w' ⟨rfl, rfl⟩
            rw [HL.out]
            go_wp2_with fail
            refine (bytesArr_any _ _ _ _ _ _ _ HI3.out.q).mono ?_
            rintro e w' ⟨rfl, rfl⟩
            rw [HB.out]
            go_wp2_with fail
            go_roundw
            case rel => exact ⟨k + 1, nT + 1, p, cap, some ⟨g1, 0, none⟩, _, F2, [g1], T ++ [((k : Int), x)], l ++ [(((k : Int), x), max x 0)], by omega, by omega, rfl, rfl, by go_num, by go_num, by omega, by omega, by omega, HT3, HB.out.symm, HI3⟩
            case measure => simp [intOf]; omega

        · obtain rfl : t = 0 := by omega
          clear ht
          have HX := Lib.hid (Blk.new wr 45 #[.bool true, .int .i64 x])
          have HOa := Lib.hid ((Only.refl [] wr).alloc (.cells #[.bool true, .int .i64 x] 45))
          go_wp2_with fail
          generalize wr.alloc (.cells #[.bool true, .int .i64 x] 45) = W1 at *
          have HIa := Lib.hid (HINV.out.only HOa.out)
          refine (pushArr_any Q F _ count bytes x l ((k : Int), x) _ flat_enters (flat_any _ x) HIa.out.q).mono ?_
          rintro e W2 ⟨rfl, F2, q2, o2, f2⟩
          have x1 := o2.cell (p := ⟨wr.heap.size, 1, none⟩) (HX.out.cell 1) (fun hm => by have := HINV.out.q.lt _ hm; simp at this)
          cases hqr : qroom count bytes l x
          · unfold qpush at q2
            rw [hqr, if_neg Bool.false_ne_true] at q2
            have hno : (nT : Int) - (p : Int) < count → ¬ 0 ≤ bytes - held := by
              intro h1 h2
              have e1 := HINV.out.len
              have e2 := HT.out
              have e3 := HH.out
              rw [qroom_yes (by omega) (by omega)] at hqr
              cases hqr
            have HI2 := Lib.hid (HIa.out.queue q2 o2 f2 HIa.out.d HIa.out.p HIa.out.s)
            have HB : Hid (qsum l = held) := HH.out.symm
            clear hqr q2 o2 f2 x1
            by_cases hcc : (nT : Int) - (p : Int) < count
            · exact absurd (show (0 : Int) ≤ bytes - held by omega) (hno hcc)
            · have hd2 : decide ((nT : Int) - (p : Int) < count) = false := by simpa using hcc
              clear hno
              have ht9 := HT.out
              have hL := HI2.out.len
              have hN := HI2.out.q.n
              have hS := HI2.out.q.s
              have hLc : (nT : Int) - (p : Int) ≤ count := by omega
              have hBb : held ≤ bytes := by omega
              have HL := Lib.hid (show ((l).length : Int) = (nT : Int) - (p : Int) by omega)
              clear hL hN hS ht9
              go_wp2_with fail
              refine (lenArr_any _ _ _ _ _ _ _ HI2.out.q).mono ?_
              rintro e w' ⟨rfl, rfl⟩
              rw [HL.out]
              go_wp2_with fail
              refine (lenArr_any _ _ _ _ _ _ _ HI2.out.q).mono ?_
              rintro e w' ⟨rfl, rfl⟩
              rw [HL.out]
              go_wp2_with fail
              refine (bytesArr_any _ _ _ _ _ _ _ HI2.out.q).mono ?_
              rintro e w' ⟨rfl, rfl⟩
              rw [HB.out]
              go_wp2_with fail
              go_roundw
              case rel => exact ⟨k + 1, nT, p, c, A, held, F2, FT, T, l, by omega, by omega, rfl, rfl, rfl, by go_num, hpT, hh0, hhb, HT, HH, HI2⟩
              case measure => simp [intOf]; omega

          · unfold qpush at q2
            rw [hqr, if_pos rfl] at q2
            have HQ2 := Lib.hid q2
            have HO2 := Lib.hid o2
            have HF2 := Lib.hid f2
            have HROW := Lib.hid (show Row W2 51 2 FT A nT c (T.flatMap encArr) by rw [HT.out]; exact HIa.out.r.only o2 (fun k hk hm => HINV.out.a k hm hk))
            have HB : Hid (qsum (l ++ [(((k : Int), x), max x 0)]) = held + 0) := by have := HH.out; unfold Hid; rw [qsum_snoc, ← this]; omega
            have hb8 := HB.out
            have hs8 : held + 0 ≤ bytes := by have := q2.s; omega
            clear hqr q2 o2 f2 hb8
            go_wp2_with (at_builtin; refine wpList_append_row _ rfl (.tmp 67) (.tmp 72) 67 rfl 51 i0 _ 2 16 Try.underlying67 HI.out HZ0.out HZ1.out HZ2.out rfl (by decide) FT A nT c (T.flatMap encArr) rfl (HROW.out.alloc _) ⟨W2.heap.size, 0, none⟩ 1 1 [.int .i64 (k : Int), .int .i64 x] rfl rfl (news_of_new _ _ _) (by simp [Value.oneCell']) (by decide) (by unfold maxLen; omega) (by omega) ?_; intro g1 cap w4 hR4 hO4 hg4; have HR4 := Lib.hid hR4; have HO4 := Lib.hid hO4; have HG4 := Lib.hid hg4; clear hR4 hO4 hg4)
            have HI3 : Hid (OrdInv w w4 count bytes Q F2 [g1] (some ⟨g1, 0, none⟩) cap (T ++ [((k : Int), x)]) p (l ++ [(((k : Int), x), max x 0)])) :=
              HINV.out.push (W3 := W2.alloc (.cells #[.int .i64 (k : Int), .int .i64 x] 51)) HOa.out HQ2.out HO2.out HF2.out ((Only.refl [] W2).alloc _) (by rw [← HT.out]; exact HR4.out) HO4.out HG4.out
            have HT3 : Hid (nT + 1 = (T ++ [((k : Int), x)]).length) := by have := HT.out; unfold Hid; rw [List.length_append, this]; rfl
            have ht9 := HT3.out
            have hb9 := HB.out
            have hs9 := HI3.out.q.s
            have hp9 := HI3.out.q.b
            have ht8 : 0 ≤ held + 0 := by omega
            have hL := HI3.out.len
            have hN := HI3.out.q.n
            have hS := HI3.out.q.s
            have hLc : (nT : Int) + 1 - (p : Int) ≤ count := by omega
            have hBb : held ≤ bytes := by omega
            have HL := Lib.hid (show ((l ++ [(((k : Int), x), max x 0)]).length : Int) = (nT : Int) + 1 - (p : Int) by omega)
            clear hL hN hS ht9 hb9 hs9 hp9
            go_wp2_with fail
            refine (lenArr_any _ _ _ _ _ _ _ HI3.out.q).mono ?_
            rintro e w' ⟨rfl, rfl⟩
            rw [HL.out]
            go_wp2_with fail
            refine (lenArr_any _ _ _ _ _ _ _ HI3.out.q).mono ?_
            rintro e w' ⟨rfl, rfl⟩
            rw [HL.out]
            go_wp2_with fail
            refine (bytesArr_any _ _ _ _ _ _ _ HI3.out.q).mono ?_
            rintro e w' ⟨rfl, rfl⟩
            rw [HB.out]
            go_wp2_with fail
            go_roundw
            case rel => exact ⟨k + 1, nT + 1, p, cap, some ⟨g1, 0, none⟩, _, F2, [g1], T ++ [((k : Int), x)], l ++ [(((k : Int), x), max x 0)], by omega, by omega, rfl, rfl, by go_num, by go_num, by omega, by omega, by omega, HT3, HB.out.symm, HI3⟩
            case measure => simp [intOf]; omega

    · go_wp2_with fail
      have hTn : nT ≤ n := by omega
      clear hlt HZ HA hk hTk hh0 hhb HH
      go_loopw [10] (fun v10 wr => OrdRel2 w count bytes nT Q FT A c T v10 wr) (fun i _ => nT - (intOf i).toNat)
      case atStart => exact ⟨p, F, l, rfl, hpT, HINV⟩
      case round =>
        clear HINV
        obtain ⟨p, F, l, rfl, hpT, HINV⟩ := hrel
        obtain ⟨⟨a1, a2⟩, ha⟩ : ∃ a, qhead l (0, 0) = a := ⟨_, rfl⟩
        have HH := Lib.hid ha
        clear ha
        by_cases hp : p < nT
        · go_wp2_with fail
          refine (popArr_any Q F _ count bytes l (a1, a2) _ HH.out HINV.out.q).mono ?_
          rintro e W2 ⟨rfl, F2, q2, o2, f2⟩
          have HOb := Lib.hid ((Only.refl [] W2).alloc (.cells #[.int .i64 a1, .int .i64 a2] 51))
          obtain ⟨h1, h2, h3, h4⟩ := HINV.out.head (by rw [← HT.out]; exact hp)
          rw [HH.out] at h1
          have HI2 := Lib.hid (HINV.out.queue q2 o2 f2 h3 (by have := HT.out; omega) (fun y hy => HINV.out.s y (List.mem_of_mem_tail hy)))
          obtain ⟨z0, z1⟩ := encArr_at T p (by rw [← HT.out]; exact hp)
          rw [← h1] at z0 z1
          simp only at z0 z1
          obtain ⟨g, rfl, hF, t0⟩ := HI2.out.r.cellAt z0
          obtain ⟨g', eg, _, t1⟩ := HI2.out.r.cellAt z1
          injection eg with eg
          injection eg with eg
          subst eg
          have hgl : g < W2.heap.size := HI2.out.r.lt g (by rw [hF]; simp)
          have heq : ∀ W, (Op.equalIn 10000 51 (.agg #[.int .i64 a1, .int .i64 a2]) (.agg #[.int .i64 a1, .int .i64 a2])).run Try.prog W = .ok true W := fun W => by rw [equalIn_arr2]; simp
          have hgd := guard_arr2
          rw [h2]
          clear q2 o2 f2 h1 h2 h3 h4 z0 z1 hF
          go_wp2_with fail
          go_quiet (fail)
          go_wp2_with fail
          go_roundw
          case rel => exact ⟨p + 1, F2, l.tail, by go_num, by omega, HI2.out.only (HOb.out.drewN nq)⟩
          case measure => simp [intOf]; omega
        · have HN0 := HINV.out.none_ (by rw [← HT.out]; exact hp)
          subst HN0
          go_wp2_with fail
          refine (popArr_any Q F _ count bytes [] (a1, a2) _ HH.out HINV.out.q).mono ?_
          rintro e W2 ⟨rfl, F2, q2, o2, f2⟩
          have HOb := Lib.hid ((Only.refl [] W2).alloc (.cells #[.int .i64 a1, .int .i64 a2] 51))
          have HI2 := Lib.hid (HINV.out.queue (l2 := []) q2 o2 f2 HINV.out.d HINV.out.p HINV.out.s)
          have HI3 := Lib.hid (HI2.out.only HOb.out)
          rw [show qhas ([] : List ((Int × Int) × Int)) = false from rfl]
          clear q2 o2 f2
          go_wp2_with fail
          refine (lenArr_any _ _ _ _ _ _ _ HI3.out.q).mono ?_
          rintro e w' ⟨rfl, rfl⟩
          rw [show (([] : List ((Int × Int) × Int)).length : Int) = 0 from rfl]
          go_wp2_with fail
          refine (bytesArr_any _ _ _ _ _ _ _ HI3.out.q).mono ?_
          rintro e w' ⟨rfl, rfl⟩
          rw [show qsum ([] : List ((Int × Int) × Int)) = 0 from rfl]
          go_wp2_with fail
          go_ret
          exact ⟨rfl, HI3.out.o⟩

set_option maxRecDepth 100000 in
set_option maxHeartbeats 1600000 in
theorem queueOrders_no (count bytes : Int) (A : Option Addr) (n c : Nat) (w : World) (h : count < 0 ∨ 64 < count ∨ bytes < 0) :
    Calls Try.prog 6 #[.int .i64 count, .int .i64 bytes, .slice A n c] w fun e w' => e = .returned (.bool true) ∧ Only [] w w' := by
  have H := Lib.hid h; clear h
  go_enter Try.func6, Try.ntmps6
  go_wp2_with fail
  refine (newArr_no count bytes _ _ H.out).mono ?_
  rintro e w1 ⟨rfl, rfl⟩
  go_wp2_with fail
  refine (known_any _).mono ?_
  rintro e w1 ⟨rfl, ho⟩
  have HO := Lib.hid ho; clear ho
  go_wp2_with fail
  refine (known_any _).mono ?_
  rintro e w2 ⟨rfl, ho⟩
  have HO2 := Lib.hid ho; clear ho
  go_wp2_with fail
  go_ret
  exact ⟨rfl, HO.out.trans HO2.out (by simp)⟩

theorem queueOrders_walk (count bytes : Int) (A : Option Addr) (n c : Nat) (z : List (Bool × Int)) (w : World) (h1 : -9223372036854775808 ≤ count ∧ count ≤ 9223372036854775807) (h2 : -9223372036854775808 ≤ bytes ∧ bytes ≤ 9223372036854775807)
    (hz : z.length = n) (hA : Arg w 2 A n (z.flatMap encOp19)) (hq : ∀ o ∈ z, (Lit.int .i64 o.2).wf = true) (hn : n ≤ c) (hr : c * 16 ≤ 140737488351232) :
    Calls Try.prog 6 #[.int .i64 count, .int .i64 bytes, .slice A n c] w fun e w' => e = .returned (.bool true) ∧ Below w.heap.size w w' := by
  by_cases h : count < 0 ∨ 64 < count ∨ bytes < 0
  · exact (queueOrders_no count bytes A n c w h).mono fun e w' ⟨he, ho⟩ => ⟨he, ho.below (Nat.le_refl _) (by simp)⟩
  · exact (queueOrders_yes count bytes A n c z w (by omega) (by omega) (by omega) h2.2 hz hA (by omega)).mono fun e w' ⟨he, ho⟩ => ⟨he, ho.below (Nat.le_refl _) (by simp)⟩
end Go.Proofs.Ytjlnkfbhbiinoaa
