/-
  QueueKinds, by the engine: the same script on queues of four other types, by turns: the law's own walk.
-/
import Derived.Test.YtjlnkfbhbiinoaaQka
import Derived.Test.YtjlnkfbhbiinoaaQk
import Derived.Test.YtjlnkfbhbiinoaaQnews
import Derived.Test.YtjlnkfbhbiinoaaOps19
import Derived.Test.YtjlnkfbhbiinoaaAp
namespace Go.Proofs.Ytjlnkfbhbiinoaa
open Go.RowKit
set_option linter.unusedVariables false

/-- A contract of the elder kind. -/
theorem Does.ofC {P : Program} {f : FuncId} {args : List Value} {w : World} {v : Value} {Q : World → Prop} (hok : callable P f = true) (h : Calls P f ⟨args⟩ w (fun e w' => e = .returned v ∧ Q w')) : Does P f args w (fun u w' => u = v ∧ Q w') :=
  ⟨hok, h.mono fun _ _ ⟨e, hq⟩ => ⟨v, e, rfl, hq⟩⟩
theorem size_ext (s : ByteArray) (hs : s.size = 64) (m : Nat) (h : m < 64) : (s.extract 0 m).size = m := by
  rw [ByteArray.size_extract]
  omega
def faT (x : ByteArray × Int × Option Addr × Nat × Nat) : Int := (x.1.size : Int)
def fcT (x : Int × Int) : Int := x.1
def fdT (x : ByteArray) : Int := (x.size : Int)
def KCorr (s : KS) : Prop := s.lra = lift faT s.la ∧ s.lrb = s.lb ∧ s.lrc = lift fcT s.lc ∧ s.lrd = lift fdT s.ld
/-- The array of the document's queues, when k of them are made. -/
def kArr (B k : Nat) : Array Value := #[if 0 < k then .pointer (some ⟨B + 1, 0, none⟩) else .pointer none, if 1 < k then .pointer (some ⟨B + 1 + 1, 0, none⟩) else .pointer none, if 2 < k then .pointer (some ⟨B + 1 + 2, 0, none⟩) else .pointer none, if 3 < k then .pointer (some ⟨B + 1 + 3, 0, none⟩) else .pointer none]
theorem kArr_set (B k : Nat) (h : k < 4) : (kArr B k).setIfInBounds k (.pointer (some ⟨B + 1 + k, 0, none⟩)) = kArr B (k + 1) := by
  have : k = 0 ∨ k = 1 ∨ k = 2 ∨ k = 3 := by omega
  rcases this with rfl | rfl | rfl | rfl <;> rfl
structure KMake (w0 wr : World) (count bytes : Int) (k : Nat) : Prop where
  o : Only [] w0 wr
  z : wr.heap.size = w0.heap.size + 1 + k
  b : Blk wr w0.heap.size 57 (kArr w0.heap.size k)
  q : ∀ j, j < k → Blk wr (w0.heap.size + 1 + j) 43 #[.int .i64 count, .int .i64 bytes, .slice none 0 0, .slice none 0 0]
theorem ri_new {w : World} {R : Nat} {count bytes : Int} (h : Blk w R 43 #[.int .i64 count, .int .i64 bytes, .slice none 0 0, .slice none 0 0]) (h0 : 0 ≤ count) (h1 : count ≤ 64) (h2 : 0 ≤ bytes) (h3 : bytes ≤ 9223372036854775807) : RI w R [] count bytes [] :=
  ⟨⟨[], [], none, 0, none, 0, rfl, by simp, h, Row.nil _ _ _ _, Row.nil _ _ _ _⟩, h0, h1, by simpa using h0, by simp, by rw [qsum_nil]; exact h2, h3⟩

theorem Blk.atA {w : World} {g i : Nat} {t : TypeId} {cs : Array Value} {v : Value} (h : Blk w g t cs) (hc : cs[i]? = some v) : w.cell? ⟨g, i, none⟩ = some v := (h.cell i).trans hc
theorem Does.qe {P : Program} {f : FuncId} {args : List Value} {w w' : World} {v : Value} (h : Does P f args w' (fun u w2 => u = v ∧ w' = w2)) (ho : Only [] w w') : Does P f args w' (fun u w2 => u = v ∧ Only [] w w2) :=
  h.mono fun _ _ ⟨e, e2⟩ => ⟨e, e2 ▸ ho⟩
theorem Fr.cut {ρ : Fr} {l : List (Nat × Value)} (h : fits ρ l) : (fun t => ovl l t (ρ t)) = ρ := funext (fits_ovl h)
theorem enc_len19 (o : Bool × Int) : (encOp19 o).length = 2 := rfl
theorem one_enc19 (o : Bool × Int) : ∀ u ∈ encOp19 o, isOne u = true := by
  intro u hu
  simp only [encOp19, List.mem_cons, List.not_mem_nil, or_false] at hu
  rcases hu with rfl | rfl <;> rfl
set_option maxRecDepth 100000 in
theorem kinds_yes (count bytes : Int) (A : Option Addr) (n c : Nat) (z : List (Bool × Int)) (w : World) (h0 : 0 ≤ count) (h1 : count ≤ 64) (h2 : 0 ≤ bytes) (h3 : bytes ≤ 9223372036854775807)
    (hz : z.length = n) (hA : Arg w 2 A n (z.flatMap encOp19)) (hq : ∀ o ∈ z, (Lit.int .i64 o.2).wf = true) (hn : n ≤ 9223372036854775807) :
    Does Try.prog 5 [.int .i64 count, .int .i64 bytes, .slice A n c] w (fun v w' => v = .bool true ∧ Only [] w w') := by
  obtain ⟨G, hS⟩ := hA.sl
  refine Does.enter (fn := Try.f5) (by kernel_rfl) rfl (by kernel_rfl) (by kernel_rfl) ?_
  conv => whnf
  refine (Does.ofC (by kernel_rfl) (newThing_ok count bytes _ _ h0 h1 h2)).mono ?_
  rintro e w1 ⟨rfl, hw1⟩
  conv => whnf
  refine (Does.ofC (by kernel_rfl) (newInt_ok count bytes _ _ h0 h1 h2)).mono ?_
  rintro e w2 ⟨rfl, hw2⟩
  conv => whnf
  refine (Does.ofC (by kernel_rfl) (newArr_ok count bytes _ _ h0 h1 h2)).mono ?_
  rintro e w3 ⟨rfl, hw3⟩
  conv => whnf
  refine (Does.ofC (by kernel_rfl) (newStr_ok count bytes _ _ h0 h1 h2)).mono ?_
  rintro e w4 ⟨rfl, hw4⟩
  conv => whnf
  refine (Does.ofC (by kernel_rfl) (known_any _)).mono ?_
  rintro e w5 ⟨rfl, ok⟩
  conv => whnf
  refine (Does.ofC (by kernel_rfl) (may_yes count bytes _ h0 h1 h2)).mono ?_
  rintro e w' ⟨rfl, rfl⟩
  have qa : QThing w1 w.heap.size [] 25 count bytes [] := by rw [← hw1]; exact QI.new w _ count bytes h0 h1 h2 h3
  have oa : Only [] w w1 := by rw [← hw1]; exact (Only.refl [] w).alloc _
  have qb : QInt w2 w1.heap.size [] 26 count bytes [] := by rw [← hw2]; exact QI.new w1 _ count bytes h0 h1 h2 h3
  have ob : Only [] w1 w2 := by rw [← hw2]; exact (Only.refl [] w1).alloc _
  have qc : QArr w3 w2.heap.size [] 28 count bytes [] := by rw [← hw3]; exact QI.new w2 _ count bytes h0 h1 h2 h3
  have oc : Only [] w2 w3 := by rw [← hw3]; exact (Only.refl [] w2).alloc _
  have qd : QStr w4 w3.heap.size [] 30 count bytes [] := by rw [← hw4]; exact QI.new w3 _ count bytes h0 h1 h2 h3
  have od : Only [] w3 w4 := by rw [← hw4]; exact (Only.refl [] w3).alloc _
  have QA := (((qa.only ob (by simp)).only oc (by simp)).only od (by simp)).only ok (by simp)
  have QB := ((qb.only oc (by simp)).only od (by simp)).only ok (by simp)
  have QC := (qc.only od (by simp)).only ok (by simp)
  have QD := qd.only ok (by simp)
  have s0_ : (Sep w w5 [[w.heap.size], [], [w1.heap.size], [], [w2.heap.size], [], [w3.heap.size], []]) := by
    have s1 := (Sep.nil w).add (F' := [w.heap.size]) oa (by simp) qa.lt
    have s1 := s1.add (F' := []) (Only.refl [] _) (by simp) (by simp)
    have s2 := s1.add (F' := [w1.heap.size]) ob (by simp) qb.lt
    have s2 := s2.add (F' := []) (Only.refl [] _) (by simp) (by simp)
    have s3 := s2.add (F' := [w2.heap.size]) oc (by simp) qc.lt
    have s3 := s3.add (F' := []) (Only.refl [] _) (by simp) (by simp)
    have s4 := s3.add (F' := [w3.heap.size]) od (by simp) qd.lt
    have s4 := s4.add (F' := []) (Only.refl [] _) (by simp) (by simp)
    exact s4.only ok
  clear qa oa qb ob qc oc qd od ok hw1 hw2 hw3 hw4
  conv => whnf
  refine VLoop.inv (α := Nat) [(16, 17), (102, 112)] (fun k => [(16, .int .i64 k)]) (fun k wr => KMake w5 wr count bytes k ∧ k ≤ 4) (fun k => 4 - k) 0 (by kernel_rfl) ⟨rfl, trivial⟩ ⟨⟨(Only.refl [] w5).alloc _, by rw [World.size_alloc], Blk.new w5 _ _, fun j hj => absurd hj (Nat.not_lt_zero _)⟩, by decide⟩ ?_
  rintro k wr j ⟨HM, hk⟩
  conv => whnf
  refine VIf.dec (fun ht => ?_) (fun ht => ?_)
  · have hlt : k < 4 := by omega
    have hzz := HM.z
    have HIN : KMake w5 ((wr.alloc (.cells #[.int .i64 count, .int .i64 bytes, .slice none 0 0, .slice none 0 0] 43)).setCell ⟨w5.heap.size, k, none⟩ (.pointer (some ⟨wr.heap.size, 0, none⟩))) count bytes (k + 1) := by
      rw [hzz]
      refine ⟨(HM.o.alloc _).setCell (.inr (Nat.le_refl _)) _, by rw [size_setCell, World.size_alloc, hzz]; omega, ?_, ?_⟩
      · rw [← kArr_set _ _ hlt]
        exact (HM.b.alloc _).set_ k _
      · intro j hj
        rcases Nat.lt_or_ge j k with h | h
        · exact ((HM.q j h).alloc _).far (by simp; omega) _
        · obtain rfl : j = k := by omega
          have := Blk.new wr 43 #[.int .i64 count, .int .i64 bytes, .slice none 0 0, .slice none 0 0]
          rw [hzz] at this
          exact this.far (by simp; omega) _
    have hf := (HM.b.alloc (.cells #[.int .i64 count, .int .i64 bytes, .slice none 0 0, .slice none 0 0] 43)).frozen k
    obtain ⟨u, hu⟩ : ∃ u, (wr.alloc (.cells #[.int .i64 count, .int .i64 bytes, .slice none 0 0, .slice none 0 0] 43)).cell? ⟨w5.heap.size, k, none⟩ = some u := by
      rw [(HM.b.alloc _).cell k]
      exact ⟨_, Array.getElem?_eq_getElem (show k < 4 from hlt)⟩
    conv => whnf
    refine ⟨k, k, rfl, hlt, p0 _, ?_⟩
    conv => whnf
    refine ⟨_, Stores.one (by kernel_rfl) rfl hu hf, ?_⟩
    conv => whnf
    exact ⟨k + 1, ⟨congrArg (Value.int IntKind.i64) (by rw [wi64]; omega), trivial⟩, ⟨HIN, hlt⟩, by omega⟩
  · obtain rfl : k = 4 := by omega
    have HD : KI w wr count bytes ⟨w.heap.size, w5.heap.size + 1, w1.heap.size, w5.heap.size + 2, w2.heap.size, w5.heap.size + 3, w3.heap.size, w5.heap.size + 4, w5.heap.size⟩ ⟨[], [], [], [], [], [], [], [], [], [], [], [], [], [], [], [], []⟩ := by
      have o := HM.o
      have hz := HM.z
      have s0 := s0_
      have hlt5 : ∀ F ∈ [[w.heap.size], [], [w1.heap.size], [], [w2.heap.size], [], [w3.heap.size], []], ∀ k ∈ F, k < w5.heap.size := s0.l
      refine ⟨QA.only o (by simp), ri_new (HM.q 0 (by decide)) h0 h1 h2 h3, QB.only o (by simp), ri_new (HM.q 1 (by decide)) h0 h1 h2 h3, QC.only o (by simp), ri_new (HM.q 2 (by decide)) h0 h1 h2 h3, QD.only o (by simp), ri_new (HM.q 3 (by decide)) h0 h1 h2 h3, HM.b, ?_⟩
      have e1 : w.heap.size ≠ w1.heap.size := fun h => s0.d 0 2 (by decide) w.heap.size (by simp [List.getD]) (by simp [List.getD, h])
      have e2 : w.heap.size ≠ w2.heap.size := fun h => s0.d 0 4 (by decide) w.heap.size (by simp [List.getD]) (by simp [List.getD, h])
      have e3 : w.heap.size ≠ w3.heap.size := fun h => s0.d 0 6 (by decide) w.heap.size (by simp [List.getD]) (by simp [List.getD, h])
      have e4 : w1.heap.size ≠ w2.heap.size := fun h => s0.d 2 4 (by decide) w1.heap.size (by simp [List.getD]) (by simp [List.getD, h])
      have e5 : w1.heap.size ≠ w3.heap.size := fun h => s0.d 2 6 (by decide) w1.heap.size (by simp [List.getD]) (by simp [List.getD, h])
      have e6 : w2.heap.size ≠ w3.heap.size := fun h => s0.d 4 6 (by decide) w2.heap.size (by simp [List.getD]) (by simp [List.getD, h])
      have l1 := hlt5 [w.heap.size] (by simp) w.heap.size (by simp)
      have l2 := hlt5 [w1.heap.size] (by simp) w1.heap.size (by simp)
      have l3 := hlt5 [w2.heap.size] (by simp) w2.heap.size (by simp)
      have l4 := hlt5 [w3.heap.size] (by simp) w3.heap.size (by simp)
      have f1 := s0.f [w.heap.size] (by simp) w.heap.size (by simp)
      have f2 := s0.f [w1.heap.size] (by simp) w1.heap.size (by simp)
      have f3 := s0.f [w2.heap.size] (by simp) w2.heap.size (by simp)
      have f4 := s0.f [w3.heap.size] (by simp) w3.heap.size (by simp)
      have hw5 := s0.o.size
      refine ⟨sep_d_of ?_, ?_, ?_, s0.o.trans o (by simp)⟩
      · simp [KS.foot]; omega
      · intro F hF k hk
        simp only [KS.foot, List.mem_cons, List.not_mem_nil, or_false] at hF
        rcases hF with rfl | rfl | rfl | rfl | rfl | rfl | rfl | rfl | rfl | rfl <;> simp at hk <;> omega
      · intro F hF k hk
        simp only [KS.foot, List.mem_cons, List.not_mem_nil, or_false] at hF
        rcases hF with rfl | rfl | rfl | rfl | rfl | rfl | rfl | rfl | rfl | rfl <;> simp at hk <;> omega
    have HCO : KCorr ⟨[], [], [], [], [], [], [], [], [], [], [], [], [], [], [], [], []⟩ := ⟨rfl, rfl, rfl, rfl⟩
    clear QA QB QC QD HM s0_
    generalize w5.heap.size + 1 = Ra at *
    generalize w5.heap.size + 2 = Rb at *
    generalize w5.heap.size + 3 = Rc at *
    generalize w5.heap.size + 4 = Rd at *
    generalize w5.heap.size = BR at *
    generalize w1.heap.size = Qb at *
    generalize w2.heap.size = Qc at *
    generalize w3.heap.size = Qd at *
    conv => whnf
    refine VLoop.inv (α := Nat × KS) [(6, 7), (17, 36), (112, 311)] (fun x => [(17, .int .i64 (x.1 : Nat))]) (fun x wr => x.1 ≤ n ∧ KCorr x.2 ∧ KI w wr count bytes ⟨w.heap.size, Ra, Qb, Rb, Qc, Rc, Qd, Rd, BR⟩ x.2) (fun x => n - x.1) (0, _) (by kernel_rfl) ⟨rfl, trivial⟩ ⟨Nat.zero_le _, HCO, HD⟩ ?_
    clear HCO HD
    rintro ⟨k, s⟩ wr j ⟨hk, HC, HI⟩
    have hk : k ≤ n := hk
    have HC : KCorr s := HC
    have HI : KI w wr count bytes ⟨w.heap.size, Ra, Qb, Rb, Qc, Rc, Qd, Rd, BR⟩ s := HI
    conv => whnf
    refine VIf.dec (fun ht => ?_) (fun ht => ?_)
    · have hlt : k < z.length := by omega
      have hSr := hS.o HI.sep.o
      obtain ⟨b, off, rfl, -⟩ := hSr.some_ (by omega)
      have hxb := bounds_i64 (hq _ (List.getElem_mem hlt))
      conv => whnf
      refine ⟨_, _, rfl, k, off + k * 2, rfl, by omega, rfl, ?_⟩
      conv => whnf
      refine ⟨_, hSr.elem enc_len19 hlt (by kernel_rfl) (by kernel_rfl), ?_⟩
      conv => whnf
      obtain ⟨⟨p, x⟩, hpx⟩ : ∃ o, z[k] = o := ⟨_, rfl⟩
      rw [hpx] at hxb ⊢
      refine vStore.fresh (cs := encOp19 (p, x)) (by kernel_rfl) rfl (one_enc19 _) (fun W1 hb1 ho1 hz1 => ?_)
      have HI1 := HI.addE ho1 (E' := [wr.heap.size]) (by simp) (by simp; omega)
      dsimp only [List.cons_append, List.nil_append] at HI1
      conv => whnf
      refine VJoin.cut (α := Nat) [(19, 20), (122, 128)] (fun m => [(19, .int .i64 (m : Nat))]) (fun m w' => m < 64 ∧ w' = W1) (by kernel_rfl) ?_ ?_
      · conv => whnf
        refine ⟨_, Loads.one (by kernel_rfl) (hb1.at (i := 1) rfl), ?_⟩
        conv => whnf
        refine VIf.dec (fun h => ?_) (fun h => ?_)
        · conv => whnf
          refine ⟨_, Loads.one (by kernel_rfl) (hb1.at (i := 1) rfl), ?_⟩
          conv => whnf
          have h : 0 < x := h
          refine ⟨(x % 64).toNat, ⟨congrArg (Value.int IntKind.i64) ?_, trivial⟩, by omega, rfl⟩
          rw [Int.tmod_eq_emod_of_nonneg (show 0 ≤ x by omega)]
          show x % 64 = _
          omega
        · conv => whnf
          exact ⟨0, ⟨rfl, trivial⟩, by decide, rfl⟩
      rintro m wm jm ⟨hm64, rfl⟩
      conv => whnf
      refine VJoin.cut (α := KS) [(6, 7), (20, 36), (128, 275)] (fun _ => []) (fun s2 w' => KCorr s2 ∧ KI w w' count bytes ⟨w.heap.size, Ra, Qb, Rb, Qc, Rc, Qd, Rd, BR⟩ s2) (by kernel_rfl) ?_ ?_
      · conv => whnf
        refine ⟨_, Loads.one (by kernel_rfl) (hb1.at (i := 0) rfl), ?_⟩
        cases p
        · obtain ⟨hca, hcb, hcc, hcd⟩ := HC
          obtain ⟨⟨A1, A2, A3, A4, A5⟩, hA0⟩ : ∃ a, qhead s.la ((⟨#[]⟩, 0, none, 0, 0) : ByteArray × Int × Option Addr × Nat × Nat) = a := ⟨_, rfl⟩
          obtain ⟨B0, hB0⟩ : ∃ a, qhead s.lb (0 : Int) = a := ⟨_, rfl⟩
          obtain ⟨⟨C1, C2⟩, hC0⟩ : ∃ a, qhead s.lc ((0, 0) : Int × Int) = a := ⟨_, rfl⟩
          obtain ⟨D0, hD0⟩ : ∃ a, qhead s.ld (⟨#[]⟩ : ByteArray) = a := ⟨_, rfl⟩
          have Pa : Hid (∀ W F, QThing W w.heap.size F 25 count bytes s.la → Calls Try.prog 34 #[.pointer (some ⟨w.heap.size, 0, none⟩)] W (PThing W w.heap.size F 25 count bytes s.la.tail (.tuple #[.agg #[.string A1, .int .i64 A2, .slice A3 A4 A5], .bool (qhas s.la)]))) :=
            fun W F h => popThing_any w.heap.size F _ count bytes s.la (A1, A2, A3, A4, A5) W hA0 h
          have Ra_ : Hid (∀ W H, RI W Ra H count bytes s.lra → Calls Try.prog 23 #[.pointer (some ⟨Ra, 0, none⟩)] W (RPost W Ra H count bytes s.lra.tail (.tuple #[.int .i64 (A1.size : Int), .bool (qhas s.la)]))) := fun W H h => by
            have := popRef_any Ra H count bytes s.lra (A1.size : Int) W (by rw [hca, lift_head faT s.la (⟨#[]⟩, 0, none, 0, 0) rfl, hA0]; rfl) h
            rw [show qhas s.lra = qhas s.la by rw [hca, lift_has]] at this
            exact this
          have Pb : Hid (∀ W F, QInt W Qb F 26 count bytes s.lb → Calls Try.prog 20 #[.pointer (some ⟨Qb, 0, none⟩)] W (PInt W Qb F 26 count bytes s.lb.tail (.tuple #[.int .i64 B0, .bool (qhas s.lb)]))) :=
            fun W F h => popInt_any Qb F _ count bytes s.lb B0 W hB0 h
          have Rb_ : Hid (∀ W H, RI W Rb H count bytes s.lrb → Calls Try.prog 23 #[.pointer (some ⟨Rb, 0, none⟩)] W (RPost W Rb H count bytes s.lrb.tail (.tuple #[.int .i64 B0, .bool (qhas s.lb)]))) := fun W H h => by
            have := popRef_any Rb H count bytes s.lrb B0 W (by rw [hcb]; exact hB0) h
            rw [show qhas s.lrb = qhas s.lb by rw [hcb]] at this
            exact this
          have Pc : Hid (∀ W F, QArr W Qc F 28 count bytes s.lc → Calls Try.prog 35 #[.pointer (some ⟨Qc, 0, none⟩)] W (PArr W Qc F 28 count bytes s.lc.tail (.tuple #[.agg #[.int .i64 C1, .int .i64 C2], .bool (qhas s.lc)]))) :=
            fun W F h => popArr_any Qc F _ count bytes s.lc (C1, C2) W hC0 h
          have Rc_ : Hid (∀ W H, RI W Rc H count bytes s.lrc → Calls Try.prog 23 #[.pointer (some ⟨Rc, 0, none⟩)] W (RPost W Rc H count bytes s.lrc.tail (.tuple #[.int .i64 C1, .bool (qhas s.lc)]))) := fun W H h => by
            have := popRef_any Rc H count bytes s.lrc C1 W (by rw [hcc, lift_head fcT s.lc (0, 0) rfl, hC0]; rfl) h
            rw [show qhas s.lrc = qhas s.lc by rw [hcc, lift_has]] at this
            exact this
          have Pd : Hid (∀ W F, QStr W Qd F 30 count bytes s.ld → Calls Try.prog 36 #[.pointer (some ⟨Qd, 0, none⟩)] W (PStr W Qd F 30 count bytes s.ld.tail (.tuple #[.string D0, .bool (qhas s.ld)]))) :=
            fun W F h => popStr_any Qd F _ count bytes s.ld D0 W hD0 h
          have Rd_ : Hid (∀ W H, RI W Rd H count bytes s.lrd → Calls Try.prog 23 #[.pointer (some ⟨Rd, 0, none⟩)] W (RPost W Rd H count bytes s.lrd.tail (.tuple #[.int .i64 (D0.size : Int), .bool (qhas s.ld)]))) := fun W H h => by
            have := popRef_any Rd H count bytes s.lrd (D0.size : Int) W (by rw [hcd, lift_head fdT s.ld ⟨#[]⟩ rfl, hD0]; rfl) h
            rw [show qhas s.lrd = qhas s.ld by rw [hcd, lift_has]] at this
            exact this
          clear hA0 hB0 hC0 hD0
          have hc4 : ∀ E Fa Ha Fb Hb Fc Hc Fd Hd, KCorr { s with E := E, Ha := Ha, Fb := Fb, Hb := Hb, Fc := Fc, Hc := Hc, Fd := Fd, Hd := Hd, Fa := Fa, la := s.la.tail, lra := s.lra.tail, lb := s.lb.tail, lrb := s.lrb.tail, lc := s.lc.tail, lrc := s.lrc.tail, ld := s.ld.tail, lrd := s.lrd.tail } := fun _ _ _ _ _ _ _ _ _ => ⟨by simp only [hca, lift_tail], by simp only [hcb], by simp only [hcc, lift_tail], by simp only [hcd, lift_tail]⟩
          generalize qhas s.la = ga at *
          generalize qhas s.lb = gb at *
          generalize qhas s.lc = gc at *
          generalize qhas s.ld = gd at *
          conv => whnf
          refine (Does.ofC (by kernel_rfl) (Pa.out _ _ HI1.pa)).mono ?_
          rintro e W2 ⟨rfl, F2, q2, o2, f2⟩
          have J2 := HI1.st_pa q2 o2 f2
          dsimp only at J2
          clear q2 o2 f2
          conv => whnf
          refine vStore.fresh (cs := [.string A1, .int .i64 A2, .slice A3 A4 A5]) (by kernel_rfl) rfl (fun u hu => by simp only [List.mem_cons, List.not_mem_nil, or_false] at hu; rcases hu with rfl | rfl | rfl <;> rfl) (fun W3 n3 o3 z3 => ?_)
          have J3 := J2.addE o3 (E' := [W2.heap.size]) (by simp) (by simp; omega)
          dsimp only [List.cons_append, List.nil_append] at J3
          conv => whnf
          refine ⟨0, 0, rfl, by decide, rfl, ?_⟩
          conv => whnf
          refine ⟨_, Loads.one (by kernel_rfl) (J3.bk.atA (i := 0) rfl), ?_⟩
          conv => whnf
          refine (Does.ofC (by kernel_rfl) (Ra_.out _ _ J3.pra)).mono ?_
          rintro e W4 ⟨rfl, H4, q4, o4, f4⟩
          have n4 := n3.only o4 (J3.ke_pra (by simp))
          have J4 := J3.st_pra q4 o4 f4
          dsimp only at J4
          clear q4 o4 f4
          conv => whnf
          refine (Does.ofC (by kernel_rfl) (Pb.out _ _ J4.pb)).mono ?_
          rintro e W5 ⟨rfl, F5, q5, o5, f5⟩
          have n5 := n4.only o5 (J4.ke_pb (by simp))
          have J5 := J4.st_pb q5 o5 f5
          dsimp only at J5
          clear q5 o5 f5
          conv => whnf
          refine ⟨1, 1, rfl, by decide, rfl, ?_⟩
          conv => whnf
          refine ⟨_, Loads.one (by kernel_rfl) (J5.bk.atA (i := 1) rfl), ?_⟩
          conv => whnf
          refine (Does.ofC (by kernel_rfl) (Rb_.out _ _ J5.prb)).mono ?_
          rintro e W6 ⟨rfl, H6, q6, o6, f6⟩
          have n6 := n5.only o6 (J5.ke_prb (by simp))
          have J6 := J5.st_prb q6 o6 f6
          dsimp only at J6
          clear q6 o6 f6
          conv => whnf
          refine (Does.ofC (by kernel_rfl) (Pc.out _ _ J6.pc)).mono ?_
          rintro e W7 ⟨rfl, F7, q7, o7, f7⟩
          have n7 := n6.only o7 (J6.ke_pc (by simp))
          have J7 := J6.st_pc q7 o7 f7
          dsimp only at J7
          clear q7 o7 f7
          conv => whnf
          refine vStore.fresh (cs := [.int .i64 C1, .int .i64 C2]) (by kernel_rfl) rfl (fun u hu => by simp only [List.mem_cons, List.not_mem_nil, or_false] at hu; rcases hu with rfl | rfl <;> rfl) (fun W8 m8 o8 z8 => ?_)
          have J8 := J7.addE o8 (E' := [W7.heap.size]) (by simp) (by simp; omega)
          dsimp only [List.cons_append, List.nil_append] at J8
          have n8 := n7.only o8 (by simp)
          conv => whnf
          refine ⟨2, 2, rfl, by decide, rfl, ?_⟩
          conv => whnf
          refine ⟨_, Loads.one (by kernel_rfl) (J8.bk.atA (i := 2) rfl), ?_⟩
          conv => whnf
          refine (Does.ofC (by kernel_rfl) (Rc_.out _ _ J8.prc)).mono ?_
          rintro e W9 ⟨rfl, H9, q9, o9, f9⟩
          have n9 := n8.only o9 (J8.ke_prc (by simp))
          have m9 := m8.only o9 (J8.ke_prc (by simp))
          have J9 := J8.st_prc q9 o9 f9
          dsimp only at J9
          clear q9 o9 f9
          conv => whnf
          refine (Does.ofC (by kernel_rfl) (Pd.out _ _ J9.pd)).mono ?_
          rintro e W10 ⟨rfl, F10, q10, o10, f10⟩
          have n10 := n9.only o10 (J9.ke_pd (by simp))
          have m10 := m9.only o10 (J9.ke_pd (by simp))
          have J10 := J9.st_pd q10 o10 f10
          dsimp only at J10
          clear q10 o10 f10
          conv => whnf
          refine ⟨3, 3, rfl, by decide, rfl, ?_⟩
          conv => whnf
          refine ⟨_, Loads.one (by kernel_rfl) (J10.bk.atA (i := 3) rfl), ?_⟩
          conv => whnf
          refine (Does.ofC (by kernel_rfl) (Rd_.out _ _ J10.prd)).mono ?_
          rintro e W11 ⟨rfl, H11, q11, o11, f11⟩
          have n11 := n10.only o11 (J10.ke_prd (by simp))
          have m11 := m10.only o11 (J10.ke_prd (by simp))
          have J11 := J10.st_prd q11 o11 f11
          dsimp only at J11
          clear q11 o11 f11
          refine splitB.abs fun N0 hN => ?_
          conv => whnf
          refine hN _ _ ?_
          refine vc.abs fun N1 hN1 => ?_
          conv => whnf
          refine VIf.no (by simp) ?_
          conv => whnf
          refine VIf.no (by simp) ?_
          conv => whnf
          refine VIf.no (by simp) ?_
          conv => whnf
          refine VIf.no (by simp) ?_
          conv => whnf
          refine ⟨_, Loads.one (by kernel_rfl) (n11.at (i := 0) rfl), ?_⟩
          conv => whnf
          refine VIf.no (by simp) ?_
          conv => whnf
          refine VIf.no (by simp) ?_
          conv => whnf
          refine ⟨0, 0, rfl, by decide, rfl, ?_⟩
          conv => whnf
          refine ⟨_, Loads.one (by kernel_rfl) (m11.at (i := 0) rfl), ?_⟩
          conv => whnf
          refine VIf.no (by simp) ?_
          conv => whnf
          refine hN1 _ _ ?_
          conv => whnf
          refine VIf.no (by simp) ?_
          conv => whnf
          exact ⟨_, trivial, hc4 _ _ _ _ _ _ _ _ _, J11⟩
        · obtain ⟨hca, hcb, hcc, hcd⟩ := HC
          obtain ⟨hx1, hx2⟩ : -9223372036854775808 ≤ x ∧ x ≤ 9223372036854775807 := hxb
          have HPa : Hid (∀ W F (nm : ByteArray), QThing W w.heap.size F 25 count bytes s.la → Calls Try.prog 31 #[.pointer (some ⟨w.heap.size, 0, none⟩), .agg #[.string nm, .int .i64 x, .slice none 0 0]] W (PThing W w.heap.size F 25 count bytes (qpush count bytes s.la (nm, x, none, 0, 0) x) (.bool (qroom count bytes s.la x)))) :=
            fun W F nm h => pushThing_any w.heap.size F _ count bytes x s.la (nm, x, none, 0, 0) W sized_enters (fun W => sized_any _ _ _ _ _ W) h
          have HRa : Hid (∀ W H, RI W Ra H count bytes s.lra → Calls Try.prog 22 #[.pointer (some ⟨Ra, 0, none⟩), .int .i64 (m : Int), .int .i64 x] W (RPost W Ra H count bytes (qpush count bytes s.lra (m : Int) x) (.bool (qroom count bytes s.la x)))) := fun W H h => by
            have := pushRef_any Ra H count bytes (m : Int) x s.lra W h
            rw [show qroom count bytes s.lra x = qroom count bytes s.la x by rw [hca, lift_room]] at this
            exact this
          have HPb : Hid (∀ W F, QInt W Qb F 26 count bytes s.lb → Calls Try.prog 21 #[.pointer (some ⟨Qb, 0, none⟩), .int .i64 x] W (PInt W Qb F 26 count bytes (qpush count bytes s.lb x (x.tdiv 2)) (.bool (qroom count bytes s.lb (x.tdiv 2))))) :=
            fun W F h => pushInt_any Qb F _ count bytes (x.tdiv 2) s.lb x W half_enters (half_any x hx1 hx2) h
          have HRb : Hid (∀ W H, RI W Rb H count bytes s.lrb → Calls Try.prog 22 #[.pointer (some ⟨Rb, 0, none⟩), .int .i64 x, .int .i64 (x.tdiv 2)] W (RPost W Rb H count bytes (qpush count bytes s.lrb x (x.tdiv 2)) (.bool (qroom count bytes s.lb (x.tdiv 2))))) := fun W H h => by
            have := pushRef_any Rb H count bytes x (x.tdiv 2) s.lrb W h
            rw [show qroom count bytes s.lrb (x.tdiv 2) = qroom count bytes s.lb (x.tdiv 2) by rw [hcb]] at this
            exact this
          have HPc : Hid (∀ W F, QArr W Qc F 28 count bytes s.lc → Calls Try.prog 32 #[.pointer (some ⟨Qc, 0, none⟩), .agg #[.int .i64 (k : Int), .int .i64 x]] W (PArr W Qc F 28 count bytes (qpush count bytes s.lc ((k : Int), x) x) (.bool (qroom count bytes s.lc x)))) :=
            fun W F h => pushArr_any Qc F _ count bytes x s.lc ((k : Int), x) W flat_enters (fun W => flat_any _ _ W) h
          have HRc : Hid (∀ W H, RI W Rc H count bytes s.lrc → Calls Try.prog 22 #[.pointer (some ⟨Rc, 0, none⟩), .int .i64 (k : Int), .int .i64 x] W (RPost W Rc H count bytes (qpush count bytes s.lrc (k : Int) x) (.bool (qroom count bytes s.lc x)))) := fun W H h => by
            have := pushRef_any Rc H count bytes (k : Int) x s.lrc W h
            rw [show qroom count bytes s.lrc x = qroom count bytes s.lc x by rw [hcc, lift_room]] at this
            exact this
          have HPd : Hid (∀ W F (nm : ByteArray), QStr W Qd F 30 count bytes s.ld → nm.size = m → Calls Try.prog 33 #[.pointer (some ⟨Qd, 0, none⟩), .string nm] W (PStr W Qd F 30 count bytes (qpush count bytes s.ld nm (m : Int)) (.bool (qroom count bytes s.ld (m : Int))))) :=
            fun W F nm h hnm => by
              subst hnm
              exact pushStr_any Qd F _ count bytes _ s.ld nm W letters_enters (letters_any nm) h
          have HRd : Hid (∀ W H, RI W Rd H count bytes s.lrd → Calls Try.prog 22 #[.pointer (some ⟨Rd, 0, none⟩), .int .i64 (m : Int), .int .i64 (m : Int)] W (RPost W Rd H count bytes (qpush count bytes s.lrd (m : Int) (m : Int)) (.bool (qroom count bytes s.ld (m : Int))))) := fun W H h => by
            have := pushRef_any Rd H count bytes (m : Int) (m : Int) s.lrd W h
            rw [show qroom count bytes s.lrd (m : Int) = qroom count bytes s.ld (m : Int) by rw [hcd, lift_room]] at this
            exact this
          have hqu : IntKind.i64.wrap (x.tdiv 2) = x.tdiv 2 := by
            rw [IntKind.wrap_i64]
            have h9 : -9223372036854775808 ≤ x.tdiv 2 ∧ x.tdiv 2 ≤ 9223372036854775807 := by
              rcases Int.le_total 0 x with h | h
              · rw [Int.tdiv_eq_ediv_of_nonneg h]; omega
              · have e : x.tdiv 2 = -((-x) / 2) := by
                  rw [← Int.tdiv_eq_ediv_of_nonneg (by omega : 0 ≤ -x), Int.neg_tdiv, Int.neg_neg]
                rw [e]; omega
            omega
          generalize hhf : x.tdiv 2 = hf at *
          have HQU := Lib.hid (show IntKind.i64.wrap (x.tdiv 2) = hf by rw [hhf]; exact hqu)
          clear hqu hhf
          generalize qroom count bytes s.la x = ga at *
          generalize qroom count bytes s.lb hf = gb at *
          generalize qroom count bytes s.lc x = gc at *
          generalize qroom count bytes s.ld (m : Int) = gd at *
          have hmin : min (m : Int) 64 = (m : Int) := by omega
          have J1 := HI1.only (Only.refl [] wm).drew
          have n1 : Blk wm.drew wr.heap.size 45 ⟨encOp19 (true, x)⟩ := hb1.drew
          conv => whnf
          refine VDraw.abs fun N0 hN => ?_
          refine VDraw.held (fun w' => Blk w' wr.heap.size 45 ⟨encOp19 (true, x)⟩ ∧ Blk w' BR 57 #[.pointer (some ⟨Ra, 0, none⟩), .pointer (some ⟨Rb, 0, none⟩), .pointer (some ⟨Rc, 0, none⟩), .pointer (some ⟨Rd, 0, none⟩)]) [0, 1, 2, 3, 4, 5, 7, 8, 9, 10, 11, 6, 12, 13, 14, 15, 16, 17, 19, 20, 21, 22, 23, 24, 25, 18, 26, 27, 28, 29, 30, 31, 32, 33, 34, 36, 37, 38, 39, 40, 35, 41, 42, 43, 44, 45, 46, 47, 48, 50, 51, 52, 53, 54, 55, 49, 56, 57, 58] (by kernel_rfl) (by kernel_rfl) ⟨n1, J1.bk⟩ ?_
          conv => whnf
          refine ⟨0, m, rfl, rfl, Nat.zero_le _, Nat.le_of_lt hm64, ?_⟩
          conv => whnf
          refine ⟨_, fun w' hw' => Loads.one (by kernel_rfl) (hw'.1.at (i := 1) rfl), ?_⟩
          conv => whnf
          refine ⟨0, 0, rfl, by decide, rfl, ?_⟩
          conv => whnf
          refine ⟨_, fun w' hw' => Loads.one (by kernel_rfl) (hw'.2.atA (i := 0) rfl), ?_⟩
          conv => whnf
          refine ⟨_, fun w' hw' => Loads.one (by kernel_rfl) (hw'.1.at (i := 1) rfl), ?_⟩
          conv => whnf
          refine (Does.ofC (by kernel_rfl) (HPa.out _ _ _ J1.pa)).mono ?_
          rintro e W2 ⟨rfl, F2, q2, o2, f2⟩
          have n2 := n1.only o2 (J1.ke_pa (by simp))
          have J2 := J1.st_pa q2 o2 f2
          dsimp only at J2
          clear q2 o2 f2
          refine ⟨⟨n2, J2.bk⟩, ?_⟩
          conv => whnf
          refine (Does.ofC (by kernel_rfl) (HRa.out _ _ J2.pra)).mono ?_
          rintro e W3 ⟨rfl, F3, q3, o3, f3⟩
          have n3 := n2.only o3 (J2.ke_pra (by simp))
          have J3 := J2.st_pra q3 o3 f3
          dsimp only at J3
          clear q3 o3 f3
          refine ⟨⟨n3, J3.bk⟩, ?_⟩
          conv => whnf
          refine VIf.no (by simp) ?_
          conv => whnf
          refine ⟨_, fun w' hw' => Loads.one (by kernel_rfl) (hw'.1.at (i := 1) rfl), ?_⟩
          conv => whnf
          refine ⟨1, 1, rfl, by decide, rfl, ?_⟩
          conv => whnf
          refine ⟨_, fun w' hw' => Loads.one (by kernel_rfl) (hw'.2.atA (i := 1) rfl), ?_⟩
          conv => whnf
          refine ⟨_, fun w' hw' => Loads.one (by kernel_rfl) (hw'.1.at (i := 1) rfl), ?_⟩
          conv => whnf
          refine ⟨_, fun w' hw' => Loads.one (by kernel_rfl) (hw'.1.at (i := 1) rfl), ?_⟩
          conv => whnf
          rw [HQU.out]
          refine (Does.ofC (by kernel_rfl) (HPb.out _ _ J3.pb)).mono ?_
          rintro e W4 ⟨rfl, F4, q4, o4, f4⟩
          have n4 := n3.only o4 (J3.ke_pb (by simp))
          have J4 := J3.st_pb q4 o4 f4
          dsimp only at J4
          clear q4 o4 f4
          refine ⟨⟨n4, J4.bk⟩, ?_⟩
          conv => whnf
          refine (Does.ofC (by kernel_rfl) (HRb.out _ _ J4.prb)).mono ?_
          rintro e W5 ⟨rfl, F5, q5, o5, f5⟩
          have n5 := n4.only o5 (J4.ke_prb (by simp))
          have J5 := J4.st_prb q5 o5 f5
          dsimp only at J5
          clear q5 o5 f5
          refine ⟨⟨n5, J5.bk⟩, ?_⟩
          conv => whnf
          refine VIf.no (by simp) ?_
          conv => whnf
          refine ⟨_, fun w' hw' => Loads.one (by kernel_rfl) (hw'.1.at (i := 1) rfl), ?_⟩
          conv => whnf
          refine ⟨2, 2, rfl, by decide, rfl, ?_⟩
          conv => whnf
          refine ⟨_, fun w' hw' => Loads.one (by kernel_rfl) (hw'.2.atA (i := 2) rfl), ?_⟩
          conv => whnf
          refine ⟨_, fun w' hw' => Loads.one (by kernel_rfl) (hw'.1.at (i := 1) rfl), ?_⟩
          conv => whnf
          refine (Does.ofC (by kernel_rfl) (HPc.out _ _ J5.pc)).mono ?_
          rintro e W6 ⟨rfl, F6, q6, o6, f6⟩
          have n6 := n5.only o6 (J5.ke_pc (by simp))
          have J6 := J5.st_pc q6 o6 f6
          dsimp only at J6
          clear q6 o6 f6
          refine ⟨⟨n6, J6.bk⟩, ?_⟩
          conv => whnf
          refine (Does.ofC (by kernel_rfl) (HRc.out _ _ J6.prc)).mono ?_
          rintro e W7 ⟨rfl, F7, q7, o7, f7⟩
          have n7 := n6.only o7 (J6.ke_prc (by simp))
          have J7 := J6.st_prc q7 o7 f7
          dsimp only at J7
          clear q7 o7 f7
          refine ⟨⟨n7, J7.bk⟩, ?_⟩
          conv => whnf
          refine VIf.no (by simp) ?_
          conv => whnf
          rw [hmin]
          refine ⟨0, m, rfl, rfl, Nat.zero_le _, Nat.le_of_lt hm64, ?_⟩
          conv => whnf
          refine ⟨3, 3, rfl, by decide, rfl, ?_⟩
          conv => whnf
          refine ⟨_, fun w' hw' => Loads.one (by kernel_rfl) (hw'.2.atA (i := 3) rfl), ?_⟩
          conv => whnf
          try rw [hmin]
          refine (Does.ofC (by kernel_rfl) (HPd.out _ _ _ J7.pd (size_ext _ rfl m hm64))).mono ?_
          rintro e W8 ⟨rfl, F8, q8, o8, f8⟩
          have n8 := n7.only o8 (J7.ke_pd (by simp))
          have J8 := J7.st_pd q8 o8 f8
          dsimp only at J8
          clear q8 o8 f8
          refine ⟨⟨n8, J8.bk⟩, ?_⟩
          conv => whnf
          try rw [hmin]
          refine (Does.ofC (by kernel_rfl) (HRd.out _ _ J8.prd)).mono ?_
          rintro e W9 ⟨rfl, F9, q9, o9, f9⟩
          have n9 := n8.only o9 (J8.ke_prd (by simp))
          have J9 := J8.st_prd q9 o9 f9
          dsimp only at J9
          clear q9 o9 f9
          refine ⟨⟨n9, J9.bk⟩, ?_⟩
          conv => whnf
          refine hN _ _ ?_
          conv => whnf
          refine VIf.no (by simp) ?_
          conv => whnf
          refine ⟨_, trivial, ⟨?_, ?_, ?_, ?_⟩, J9⟩
          · dsimp only
            rw [lift_push, hca]
            exact congrArg (fun t => qpush count bytes (lift faT s.la) t x) (by show (m : Int) = _; rw [show faT _ = _ from congrArg Int.ofNat (size_ext _ rfl m hm64)]; rfl)
          · exact congrArg (fun t => qpush count bytes t x hf) hcb
          · dsimp only
            rw [lift_push, hcc]
            rfl
          · dsimp only
            rw [lift_push, hcd]
            exact congrArg (fun t => qpush count bytes (lift fdT s.ld) t (m : Int)) (by show (m : Int) = _; rw [show fdT _ = _ from congrArg Int.ofNat (size_ext _ rfl m hm64)]; rfl)
      · rintro s2 wc jc ⟨HC2, HI2⟩
        have HC2' := HC2
        obtain ⟨hca, hcb, hcc, hcd⟩ := HC2
        obtain ⟨F9, G9, L1, c1, L2, c2, _, _, hb9, _, _⟩ := HI2.pra.rep
        obtain ⟨F8, G8, L3, c3, L4, c4, _, _, hb8, _, _⟩ := HI2.prc.rep
        conv => whnf
        refine VDraw.abs fun N0 hN => ?_
        refine VDraw.q (by kernel_rfl) (by kernel_rfl) ?_
        conv => whnf
        refine ⟨_, fun w' hw' => (Does.ofC (by kernel_rfl) (lenThing_any _ _ _ _ _ _ _ (HI2.pa.only hw' (by simp)))).qe hw', ?_⟩
        conv => whnf
        refine ⟨0, 0, rfl, by decide, rfl, ?_⟩
        conv => whnf
        refine ⟨_, fun w' hw' => Loads.one (by kernel_rfl) ((HI2.bk.only hw' (by simp)).atA (i := 0) rfl), ?_⟩
        conv => whnf
        refine ⟨_, fun w' hw' => Loads.one (by kernel_rfl) ((hb9.only hw' (by simp)).atA (i := 2) rfl), ?_⟩
        conv => whnf
        refine VIf.no (by rw [hca, lift_len]; simp) ?_
        conv => whnf
        refine ⟨_, fun w' hw' => (Does.ofC (by kernel_rfl) (bytesInt_any _ _ _ _ _ _ _ (HI2.pb.only hw' (by simp)))).qe hw', ?_⟩
        conv => whnf
        refine ⟨1, 1, rfl, by decide, rfl, ?_⟩
        conv => whnf
        refine ⟨_, fun w' hw' => Loads.one (by kernel_rfl) ((HI2.bk.only hw' (by simp)).atA (i := 1) rfl), ?_⟩
        conv => whnf
        refine ⟨_, fun w' hw' => (Does.ofC (by kernel_rfl) (bytesRef_any _ _ _ _ _ _ (HI2.prb.only hw' (by simp)))).qe hw', ?_⟩
        conv => whnf
        refine VIf.no (by rw [hcb]; simp) ?_
        conv => whnf
        refine ⟨_, fun w' hw' => (Does.ofC (by kernel_rfl) (lenArr_any _ _ _ _ _ _ _ (HI2.pc.only hw' (by simp)))).qe hw', ?_⟩
        conv => whnf
        refine ⟨2, 2, rfl, by decide, rfl, ?_⟩
        conv => whnf
        refine ⟨_, fun w' hw' => Loads.one (by kernel_rfl) ((HI2.bk.only hw' (by simp)).atA (i := 2) rfl), ?_⟩
        conv => whnf
        refine ⟨_, fun w' hw' => Loads.one (by kernel_rfl) ((hb8.only hw' (by simp)).atA (i := 2) rfl), ?_⟩
        conv => whnf
        refine VIf.no (by rw [hcc, lift_len]; simp) ?_
        conv => whnf
        refine ⟨_, fun w' hw' => (Does.ofC (by kernel_rfl) (bytesStr_any _ _ _ _ _ _ _ (HI2.pd.only hw' (by simp)))).qe hw', ?_⟩
        conv => whnf
        refine ⟨3, 3, rfl, by decide, rfl, ?_⟩
        conv => whnf
        refine ⟨_, fun w' hw' => Loads.one (by kernel_rfl) ((HI2.bk.only hw' (by simp)).atA (i := 3) rfl), ?_⟩
        conv => whnf
        refine ⟨_, fun w' hw' => (Does.ofC (by kernel_rfl) (bytesRef_any _ _ _ _ _ _ (HI2.prd.only hw' (by simp)))).qe hw', ?_⟩
        conv => whnf
        intro w' ho
        conv => whnf
        refine hN _ _ ?_
        conv => whnf
        refine VIf.no (by rw [hcd, lift_sum]; simp) ?_
        conv => whnf
        exact ⟨(k + 1, s2), ⟨congrArg (Value.int IntKind.i64) (by rw [wi64]; omega), trivial⟩, ⟨by show k + 1 ≤ n; omega, HC2', HI2.only ho⟩, by show n - (k + 1) < n - k; omega⟩
    · conv => whnf
      exact ⟨rfl, HI.sep.o⟩
set_option maxRecDepth 100000 in
theorem kinds_no (count bytes : Int) (A : Option Addr) (n c : Nat) (w : World) (h : count < 0 ∨ 64 < count ∨ bytes < 0) :
    Does Try.prog 5 [.int .i64 count, .int .i64 bytes, .slice A n c] w (fun v w' => v = .bool true ∧ Only [] w w') := by
  refine Does.enter (fn := Try.f5) (by kernel_rfl) rfl (by kernel_rfl) (by kernel_rfl) ?_
  conv => whnf
  refine (Does.ofC (by kernel_rfl) (newThing_no count bytes _ _ h)).mono ?_
  rintro e w1 ⟨rfl, rfl⟩
  conv => whnf
  refine (Does.ofC (by kernel_rfl) (newInt_no count bytes _ _ h)).mono ?_
  rintro e w1 ⟨rfl, rfl⟩
  conv => whnf
  refine (Does.ofC (by kernel_rfl) (newArr_no count bytes _ _ h)).mono ?_
  rintro e w1 ⟨rfl, rfl⟩
  conv => whnf
  refine (Does.ofC (by kernel_rfl) (newStr_no count bytes _ _ h)).mono ?_
  rintro e w1 ⟨rfl, rfl⟩
  conv => whnf
  refine (Does.ofC (by kernel_rfl) (known_any _)).mono ?_
  rintro e w1 ⟨rfl, ho⟩
  conv => whnf
  refine (Does.ofC (by kernel_rfl) (may_no count bytes _ h)).mono ?_
  rintro e w' ⟨rfl, rfl⟩
  conv => whnf
  exact ⟨rfl, ho⟩
theorem queueKinds_walk (count bytes : Int) (A : Option Addr) (n c : Nat) (z : List (Bool × Int)) (w : World) (h1 : -9223372036854775808 ≤ count ∧ count ≤ 9223372036854775807) (h2 : -9223372036854775808 ≤ bytes ∧ bytes ≤ 9223372036854775807)
    (hz : z.length = n) (hA : Arg w 2 A n (z.flatMap encOp19)) (hq : ∀ o ∈ z, (Lit.int .i64 o.2).wf = true) (hn : n ≤ c) (hr : c * 16 ≤ 140737488351232) :
    Calls Try.prog 5 #[.int .i64 count, .int .i64 bytes, .slice A n c] w fun e w' => e = .returned (.bool true) ∧ Below w.heap.size w w' := by
  have key : Does Try.prog 5 [.int .i64 count, .int .i64 bytes, .slice A n c] w (fun v w' => v = .bool true ∧ Only [] w w') := by
    by_cases h : count < 0 ∨ 64 < count ∨ bytes < 0
    · exact kinds_no count bytes A n c w h
    · exact kinds_yes count bytes A n c z w (by omega) (by omega) (by omega) h2.2 hz hA hq (by omega)
  exact key.h.mono fun e w' ⟨v, he, hv, ho⟩ => ⟨by rw [he, hv], ho.below (Nat.le_refl _) (by simp)⟩
end Go.Proofs.Ytjlnkfbhbiinoaa
