/-
  The document's answer on packets (mosaicref05): a head's checksum; a slice's own copy.
-/
import Derived.Test.YtofomopdaponbaaGreatDoorZu
import Derived.Test.YtofomopdaponbaaGreatDoorZe
import Derived.Test.YtofomopdaponbaaGreatDoorYVn
namespace Go.Proofs.YtofomopdaponbaaGreatDoor
open Go.RowKit
set_option linter.unusedVariables false
set_option linter.unusedSimpArgs false

set_option maxRecDepth 100000 in
theorem rsum5_does {w : World} {G : List Nat} {A : Option Addr} {n c : Nat} {l : List UInt8} (h : Bs w G A n l) (h12 : 12 ≤ n) (he : n % 2 = 0) (hn : n ≤ 4096) :
    Does Tryz.prog 232 [.slice A n c] w (fun v w' => v = .int .i64 (ofL (zeroed l)) ∧ Only [] w w') := by
  have hl := h.len
  refine Does.enter (fn := Tryz.f232) (by kernel_rfl) rfl (by kernel_rfl) (by kernel_rfl) ?_
  conv => whnf
  refine vFall.append 5 1 1 rfl (by kernel_rfl) rfl (Row.nil _ _ _ _) rfl h (one_u8 l) (by omega) (by omega) ?_
  intro A' c' F' w1 hr ho1 hF
  have en : 0 + n = n := Nat.zero_add n
  rw [en, List.nil_append] at hr
  rw [en]
  obtain ⟨g, rfl, rfl, hf, ⟨u, hu⟩, hr1⟩ := hr.put (i := 10) (v := u8 0) (by omega)
  obtain ⟨g', e, _, hf2, ⟨u2, hu2⟩, hr2⟩ := hr1.put (i := 11) (v := u8 0) (by omega)
  cases e
  have hg : w.heap.size ≤ g := (hF g (by simp)).elim (fun h => absurd h (by simp)) id
  have ho3 : Only [g] w1 ((w1.setCell ⟨g, 10, none⟩ (u8 0)).setCell ⟨g, 11, none⟩ (u8 0)) := ((Only.refl _ w1).put (.inl (by simp))).put (.inl (by simp))
  have how : Only [] w ((w1.setCell ⟨g, 10, none⟩ (u8 0)).setCell ⟨g, 11, none⟩ (u8 0)) := ho1.nw ho3 hg
  have hz : ((l.map u8).set 10 (u8 0)).set 11 (u8 0) = (zeroed l).map u8 := by
    unfold zeroed
    rw [List.map_set, List.map_set]
  rw [hz] at hr2
  have hS := partL_bd (zeroed l)
  conv => whnf
  refine ⟨_, _, rfl, 10, 10, rfl, by omega, rfl, ?_⟩
  conv => whnf
  refine ⟨_, Stores.one (by kernel_rfl) rfl hu hf, ?_⟩
  conv => whnf
  refine ⟨_, _, rfl, 11, 11, rfl, by omega, rfl, ?_⟩
  conv => whnf
  refine ⟨_, Stores.one (by kernel_rfl) rfl hu2 hf2, ?_⟩
  conv => whnf
  (refine (rpart_does hr2.bs he (by omega)).mono ?_; rintro v w2 ⟨rfl, ho2⟩)
  conv => whnf
  refine ⟨congrArg (Value.int .i64) ?_, how.t0 ho2⟩
  rw [wi64]
  unfold ofL
  omega
set_option maxRecDepth 100000 in
theorem rown5_does {w : World} {G : List Nat} {A : Option Addr} {n c : Nat} {l : List UInt8} (h : Bs w G A n l) (hn : n ≤ 140737488355328) :
    Does Tryz.prog 234 [.slice A n c] w (fun v w' => Own w w' 5 1 (l.map u8) v) := by
  have hl := h.len
  refine Does.enter (fn := Tryz.f234) (by kernel_rfl) rfl (by kernel_rfl) (by kernel_rfl) ?_
  conv => whnf
  refine vFall.append 5 1 1 rfl (by kernel_rfl) rfl (Row.nil _ _ _ _) rfl h (one_u8 l) (by omega) (by omega) ?_
  intro A' c' F' w1 hr ho1 hF
  conv => whnf
  exact ⟨A', _, c', F', rfl, hr, ho1, fun k hk => (hF k hk).elim (fun h => absurd h (by simp)) id⟩
theorem sealed_iff {l : List UInt8} : decide (wordL l 10 = ofL (zeroed l)) = checkedL l := by
  have h1 := u8_le (l.getD 10 0)
  have h2 := u8_le (l.getD 11 0)
  have hS := ofL_bd (zeroed l)
  unfold checkedL wordL
  rw [Bool.eq_iff_iff, Bool.and_eq_true, decide_eq_true_eq, decide_eq_true_eq, decide_eq_true_eq]
  show ((l.getD 10 0).toNat : Int) * 256 + ((l.getD 11 0).toNat : Int) = _ ↔ _
  omega
set_option maxRecDepth 100000 in
theorem rsealed_does {w : World} {G : List Nat} {A : Option Addr} {n c : Nat} {l : List UInt8} (h : Bs w G A n l) (h12 : 12 ≤ n) (he : n % 2 = 0) (hn : n ≤ 4096) :
    Does Tryz.prog 179 [.slice A n c] w (fun v w' => v = .bool (checkedL l) ∧ Only [] w w') := by
  refine Does.enter (fn := Tryz.f179) (by kernel_rfl) rfl (by kernel_rfl) (by kernel_rfl) ?_
  conv => whnf
  (refine (rget5_does (k := 10) h (by omega) (by omega)).mono ?_; rintro v w1 ⟨rfl, ho1⟩)
  conv => whnf
  (refine (rsum5_does (h.o ho1) h12 he hn).mono ?_; rintro v w2 ⟨rfl, ho2⟩)
  conv => whnf
  refine ⟨congrArg Value.bool ?_, ho1.t0 ho2⟩
  rw [← sealed_iff]
  rfl
theorem fill_set {l : List UInt8} {i n : Nat} (hi : i < l.length) (hn : i < n) : (l.take i ++ List.replicate (n - i) 0).set i l[i] = l.take (i + 1) ++ List.replicate (n - (i + 1)) 0 := by
  rw [List.set_append_right _ _ (by rw [List.length_take]; omega), List.length_take, Nat.min_eq_left (by omega), Nat.sub_self, show n - i = n - (i + 1) + 1 by omega, List.replicate_succ, List.set_cons_zero, List.take_succ_eq_append_getElem hi, List.append_assoc]
  rfl
theorem fill_ad {l : List UInt8} {i : Nat} (hi : i < l.length) (hn : i < 16) : (adC (4, l.take i ++ List.replicate (16 - i) 0)).set (1 + i) (u8 l[i]) = adC (4, l.take (i + 1) ++ List.replicate (16 - (i + 1)) 0) := by
  rw [← fill_set hi hn, Nat.add_comm 1 i]
  unfold adC
  rw [List.set_cons_succ, ← List.map_set]
theorem fill_ok {l : List UInt8} {i : Nat} (hi : i ≤ l.length) (hn : i ≤ 16) : okAd (4, l.take i ++ List.replicate (16 - i) 0) := okAd4 (by simp; omega)
set_option maxRecDepth 100000 in
theorem raddress5_does {w : World} {G : List Nat} {A : Option Addr} {n c : Nat} {l : List UInt8} (h : Bs w G A n l) (h4 : 4 ≤ n) (hn : n ≤ 140737488355328) :
    Does Tryz.prog 233 [.slice A n c] w (fun v w' => v = .agg ⟨adC (4, l.take 4 ++ z12)⟩ ∧ Only [] w w') := by
  have hl := h.len
  obtain ⟨b, off, rfl, -⟩ := h.some_ (by omega)
  have hA := Only.alloc (Only.refl [] w) (.cells ⟨adC (0, List.replicate 16 0)⟩ 24)
  have b2 := Blk.new w 24 ⟨adC (0, List.replicate 16 0)⟩
  refine Does.enter (fn := Tryz.f233) (by kernel_rfl) rfl (by kernel_rfl) (by kernel_rfl) ?_
  conv => whnf
  refine vStore.fresh (cs := adC (4, List.replicate 16 0)) (by kernel_rfl) rfl (one_adC _) (fun w2 b3 ho2 hz2 => ?_)
  have hz0 := World.size_alloc w (.cells ⟨adC (0, List.replicate 16 0)⟩ 24)
  have hz1 : w.heap.size ≤ (w.alloc (.cells ⟨adC (0, List.replicate 16 0)⟩ 24)).heap.size := by rw [hz0]; omega
  have b3 : Blk w2 (w.alloc (.cells ⟨adC (0, List.replicate 16 0)⟩ 24)).heap.size 24 ⟨adC (4, List.replicate 16 0)⟩ := b3
  have b2 := b2.only ho2 (by simp)
  have how := hA.t0 ho2
  conv => whnf
  refine VLoop.inv (α := Nat) [(4, 5), (6, 17)] (fun i => [(4, .int .i64 i)]) (fun i w' => i ≤ 4 ∧ Blk w' (w.alloc (.cells ⟨adC (0, List.replicate 16 0)⟩ 24)).heap.size 24 ⟨adC (4, l.take i ++ List.replicate (16 - i) 0)⟩ ∧ Blk w' w.heap.size 24 ⟨adC (0, List.replicate 16 0)⟩ ∧ Only [] w w') (fun i => 4 - i) 0 (by kernel_rfl) ⟨rfl, trivial⟩ ⟨by decide, b3, b2, how⟩ ?_
  rintro i wr j ⟨hi, b3, b2, how⟩
  conv => whnf
  refine VIf.dec (fun ht => ?_) (fun ht => ?_)
  · have ht : (i : Int) < 4 := ht
    have hil : i < l.length := by omega
    have hb := h.o how
    conv => whnf
    refine ⟨_, _, rfl, i, off + i, rfl, by omega, p1 _ _, ?_⟩
    conv => whnf
    (refine ⟨_, Loads.one (by kernel_rfl) (hb.ld (List.getElem?_eq_getElem hil)), ?_⟩; conv => whnf)
    refine ⟨i, 1 + i, rfl, by omega, p1 _ _, ?_⟩
    conv => whnf
    refine vStore.one b3 (by kernel_rfl) rfl (i := 1 + i) (u := u8 ((l.take i ++ List.replicate (16 - i) 0)[i]'(by simp; omega))) (adC_at (by simp; omega)) (fun b3 hoS => ?_)
    have b3 : Blk _ (w.alloc (.cells ⟨adC (0, List.replicate 16 0)⟩ 24)).heap.size 24 ⟨_⟩ := b3
    conv => whnf
    refine ⟨i + 1, ⟨congrArg (Value.int IntKind.i64) (by rw [wi64]; omega), trivial⟩, ⟨by omega, ?_, b2.only hoS (by simp), how.nw hoS hz1⟩, by omega⟩
    exact (congrArg (fun x : List Value => Blk _ (w.alloc (.cells ⟨adC (0, List.replicate 16 0)⟩ 24)).heap.size 24 ⟨x⟩) (fill_ad hil (by omega))) ▸ b3
  · have ht : ¬ (i : Int) < 4 := ht
    obtain rfl : i = 4 := by omega
    conv => whnf
    refine ⟨_, Loads.all b3 (by kernel_rfl) (by rw [adC_len (fill_ok (by omega) (by decide))]; kernel_rfl), ?_⟩
    conv => whnf
    refine vStore.all (cs := adC (4, l.take 4 ++ List.replicate (16 - 4) 0)) b2 (by rw [adC_len (fill_ok (by omega) (by decide))]; kernel_rfl) (by rw [adC_len (fill_ok (by omega) (by decide))]; rfl) (one_adC _) (fun wz bz hoZ _ => ?_)
    conv => whnf
    refine ⟨_, Loads.all bz (by kernel_rfl) (by rw [adC_len (fill_ok (by omega) (by decide))]; kernel_rfl), ?_⟩
    conv => whnf
    exact ⟨rfl, how.nw hoZ (Nat.le_refl _)⟩
end Go.Proofs.YtofomopdaponbaaGreatDoor
/-
  The document's answer on packets (mosaicref05): read.
-/
namespace Go.Proofs.YtofomopdaponbaaGreatDoor
open Go.RowKit
set_option linter.unusedVariables false
set_option linter.unusedSimpArgs false

theorem flag_bit {f : Int} (m : Nat) (hm : m ≤ 15) (h0 : 0 ≤ f) (h1 : f ≤ 65535) : ((IntKind.i64.wrap (f.tdiv ((2 ^ m : Nat) : Int))).tmod 2 == 1) = (andI .u16 f ((2 ^ m : Nat) : Int) != 0) := by
  have hp : 1 ≤ 2 ^ m := Nat.one_le_two_pow
  have hp2 : 2 ^ m ≤ 2 ^ 15 := Nat.pow_le_pow_right (by decide) hm
  rw [andI_bit .u16 f m h0 (show f ≤ ((maxN .u16 : Nat) : Int) from h1) (show 2 ^ m ≤ maxN .u16 from Nat.le_trans hp2 (by decide))]
  have hd0 : 0 ≤ f / ((2 ^ m : Nat) : Int) := Int.ediv_nonneg h0 (by omega)
  have hd1 : f / ((2 ^ m : Nat) : Int) ≤ f := Int.ediv_le_self _ h0
  rw [Int.tdiv_eq_ediv_of_nonneg h0, wi_id (by omega) (by omega), Int.tmod_eq_emod_of_nonneg hd0]
  generalize f / ((2 ^ m : Nat) : Int) = x at hd0 hd1
  have hx : x % 2 = 0 ∨ x % 2 = 1 := by omega
  rcases hx with e | e
  · rw [e]
    simp
  · rw [e]
    have hne : ((2 ^ m : Nat) : Int) ≠ 0 := by omega
    rw [Int.one_mul, bne_iff_ne.2 hne]
    rfl
theorem off_m {f : Int} (h0 : 0 ≤ f) (h1 : f ≤ 65535) : IntKind.i64.wrap (f.tmod 8192 * 8) = f % 8192 * 8 := by
  rw [Int.tmod_eq_emod_of_nonneg h0, wi_id (by omega) (by omega)]
set_option maxHeartbeats 4000000 in
set_option maxRecDepth 100000 in
theorem rread_does {w : World} {G : List Nat} {A : Option Addr} {n c head : Nat} {l : List UInt8} (h : Bs w G A n l) (h20 : 20 ≤ head) (hh : head ≤ n) (hn : n ≤ 65535) (hc : n ≤ c) :
    Does Tryz.prog 180 [.slice A n c, .int .i64 head] w (fun v w' => ∃ O D, v = .agg ⟨pkC (readP l head) O D⟩ ∧ Pks w' (readP l head) O D w.heap.size ∧ Only [] w w') := by
  have hl := h.len
  obtain ⟨b, off, rfl, -⟩ := h.some_ (by omega)
  have hA := Only.alloc (Only.refl [] w) (.cells ⟨pkC zeroP (none, 0) (none, 0)⟩ 56)
  have b2 := Blk.new w 56 ⟨pkC zeroP (none, 0) (none, 0)⟩
  refine Does.enter (fn := Tryz.f180) (by kernel_rfl) rfl (by kernel_rfl) (by kernel_rfl) ?_
  conv => whnf
  (refine (rget5_does (k := 6) (h.o hA) (by omega) (by omega)).mono ?_; rintro v w1 ⟨rfl, ho1⟩)
  have how1 := hA.t0 ho1
  have hf := wordL_bd l 6
  conv => whnf
  refine VDraw.abs fun N3 hN3 => ?_
  refine VDraw.held (fun w' => Only [] w w') [0, 1, 2, 3, 4, 5, 7, 8, 10, 11, 12, 13, 14, 15, 16, 17, 18, 21, 22, 23, 24, 25, 26, 27, 28, 29, 30, 31, 32, 33, 34, 36, 37, 38, 6, 9, 19, 20, 35, 39, 40, 41] (by kernel_rfl) (by kernel_rfl) how1.drew ?_
  conv => whnf
  refine ⟨_, _, rfl, 1, off + 1, rfl, by omega, p1 _ _, ?_⟩
  conv => whnf
  (refine ⟨_, fun w' hw' => Loads.one (by kernel_rfl) ((h.o hw').ld (getD_some (by omega))), ?_⟩; conv => whnf)
  refine ⟨12, n, c, rfl, rfl, rfl, by omega, by omega, by omega, _, n - 12, c - 12, rfl, rfl, rfl, ?_⟩
  conv => whnf
  refine ⟨16, n, c, rfl, rfl, rfl, by omega, by omega, by omega, _, n - 16, c - 16, rfl, rfl, rfl, ?_⟩
  conv => whnf
  refine ⟨_, _, rfl, 9, off + 9, rfl, by omega, p1 _ _, ?_⟩
  conv => whnf
  (refine ⟨_, fun w' hw' => Loads.one (by kernel_rfl) ((h.o hw').ld (getD_some (by omega))), ?_⟩; conv => whnf)
  refine ⟨_, _, rfl, 8, off + 8, rfl, by omega, p1 _ _, ?_⟩
  conv => whnf
  (refine ⟨_, fun w' hw' => Loads.one (by kernel_rfl) ((h.o hw').ld (getD_some (by omega))), ?_⟩; conv => whnf)
  refine ⟨20, head, c, rfl, rfl, rfl, by omega, by omega, by omega, _, head - 20, c - 20, rfl, rfl, rfl, ?_⟩
  conv => whnf
  refine ⟨head, n, c, rfl, rfl, rfl, by omega, by omega, by omega, _, n - head, c - head, rfl, rfl, rfl, ?_⟩
  conv => whnf
  have hw1 := how1.drew
  have h12 := (h.o hw1).cut (lo := 12) (hi := n) (m := c) (by omega) (by omega) (by omega) rfl
  have h16 := (h.o hw1).cut (lo := 16) (hi := n) (m := c) (by omega) (by omega) (by omega) rfl
  have h20 := (h.o hw1).cut (lo := 20) (hi := head) (m := c) (by omega) (by omega) (by omega) rfl
  have hhd := (h.o hw1).cut (lo := head) (hi := n) (m := c) (by omega) (by omega) (by omega) rfl
  refine (raddress5_does h12 (by omega) (by omega)).mono ?_
  rintro v w2 ⟨rfl, ho2⟩
  refine ⟨hw1.t0 ho2, ?_⟩
  conv => whnf
  refine (raddress5_does (h16.o ho2) (by omega) (by omega)).mono ?_
  rintro v w3 ⟨rfl, ho3⟩
  have how3 := (hw1.t0 ho2).t0 ho3
  refine ⟨how3, ?_⟩
  conv => whnf
  refine (rget5_does (k := 4) (h.o how3) (by omega) (by omega)).mono ?_
  rintro v w4 ⟨rfl, ho4⟩
  have how4 := how3.t0 ho4
  refine ⟨how4, ?_⟩
  conv => whnf
  refine (rown5_does (h20.o ((ho2.t0 ho3).t0 ho4)) (by omega)).mono ?_
  intro v w5 hv
  obtain ⟨AO, nO, GO, rfl, hBO, hcO, hmO, ho5, hGO⟩ := hv.bs
  have how5 := how4.t0 ho5
  refine ⟨how5, ?_⟩
  conv => whnf
  refine (rown5_does (hhd.o (((ho2.t0 ho3).t0 ho4).t0 ho5)) (by omega)).mono ?_
  intro v w6 hv
  obtain ⟨AD, nD, GD, rfl, hBD, hcD, hmD, ho6, hGD⟩ := hv.bs
  have how6 := how5.t0 ho6
  refine ⟨how6, ?_⟩
  have es : ∀ k, k + 4 ≤ n → (((l.drop k).take (n - k)).take 4 ++ z12) = (l.drop k).take 4 ++ z12 := fun k hk => by
    rw [List.take_take, Nat.min_eq_left (by omega)]
  rw [es 12 (by omega), es 16 (by omega)]
  have okS : okAd (4, (l.drop 12).take 4 ++ z12) := okAd4 (by simp [z12]; omega)
  have okD : okAd (4, (l.drop 16).take 4 ++ z12) := okAd4 (by simp [z12]; omega)
  have lS := adC_len okS
  have lD := adC_len okD
  conv => whnf
  refine lenIs.of (by rw [List.length_map]; exact okS.2.2) ?_
  conv => whnf
  refine lenIs.of (by rw [List.length_map]; exact okD.2.2) ?_
  conv => whnf
  have hlt4 := (b2.only ((ho1.t0 (Only.refl [] w1).drew).t0 ((ho2.t0 ho3).t0 ho4)) (by simp)).lt
  have hlt5 := (b2.only ((ho1.t0 (Only.refl [] w1).drew).t0 (((ho2.t0 ho3).t0 ho4).t0 ho5)) (by simp)).lt
  have okR : okPk (readP l head) := ⟨okS, okD, by
    show -9223372036854775808 ≤ (wordL l 6) % 8192 * 8 ∧ (wordL l 6) % 8192 * 8 ≤ 9223372036854775807
    omega⟩
  have b26 := b2.only ((ho1.t0 (Only.refl [] w1).drew).t0 ((((ho2.t0 ho3).t0 ho4).t0 ho5).t0 ho6)) (by simp)
  have eDF : ((IntKind.i64.wrap ((wordL l 6).tdiv 16384)).tmod 2 == 1) = (andI .u16 (wordL l 6) 16384 != 0) := flag_bit (f := wordL l 6) 14 (by decide) hf.1 hf.2
  have eMF : ((IntKind.i64.wrap ((wordL l 6).tdiv 8192)).tmod 2 == 1) = (andI .u16 (wordL l 6) 8192 != 0) := flag_bit (f := wordL l 6) 13 (by decide) hf.1 hf.2
  have eOF := off_m hf.1 hf.2
  have hP : (⟨4, IntKind.i64.wrap ((l.getD 1 0).toNat : Int), 0, (4, (l.drop 12).take 4 ++ z12), (4, (l.drop 16).take 4 ++ z12), IntKind.i64.wrap ((l.getD 9 0).toNat : Int), IntKind.i64.wrap ((l.getD 8 0).toNat : Int), IntKind.u32.wrap (wordL l 4), ((IntKind.i64.wrap ((wordL l 6).tdiv 16384)).tmod 2 == 1), ((IntKind.i64.wrap ((wordL l 6).tdiv 8192)).tmod 2 == 1), false, IntKind.i64.wrap ((wordL l 6).tmod 8192 * 8), (l.drop 20).take (head - 20), (l.drop head).take (n - head)⟩ : Pk) = readP l head := by
    have h4 := wordL_bd l 4
    unfold readP flagF
    rw [wi8, wi8, wi8, eOF, show IntKind.u32.wrap (wordL l 4) = wordL l 4 by rw [wr32]; omega, List.take_of_length_le (i := n - head) (by rw [List.length_drop]; omega), eDF, eMF]
  refine vStore.all (cs := pkC ⟨4, IntKind.i64.wrap ((l.getD 1 0).toNat : Int), 0, (4, (l.drop 12).take 4 ++ z12), (4, (l.drop 16).take 4 ++ z12), IntKind.i64.wrap ((l.getD 9 0).toNat : Int), IntKind.i64.wrap ((l.getD 8 0).toNat : Int), IntKind.u32.wrap (wordL l 4), ((IntKind.i64.wrap ((wordL l 6).tdiv 16384)).tmod 2 == 1), ((IntKind.i64.wrap ((wordL l 6).tdiv 8192)).tmod 2 == 1), false, IntKind.i64.wrap ((wordL l 6).tmod 8192 * 8), (l.drop 20).take (head - 20), (l.drop head).take (n - head)⟩ (AO, nO) (AD, nD)) b26 (by rw [hP, pk_len okR]; kernel_rfl) (by rw [hP, pk_len okR]; rfl) (one_pkC _ _ _) (fun wz bz hoZ _ => ?_)
  rw [hP] at bz
  have howz := how6.nw hoZ (Nat.le_refl _)
  refine ⟨howz, ?_⟩
  conv => whnf
  refine hN3 _ _ ?_
  conv => whnf
  refine ⟨_, bz.pkAll okR, ?_⟩
  conv => whnf
  have hsz3 := how3.size
  have hsz4 := how4.size
  have hsz5 := how5.size
  have hlt := b26.lt
  have ho56 := ho5.t0 ho6
  have n1 : ∀ k ∈ GO, k ∉ [w.heap.size] := fun k hk => by have := (hGO k hk).1; have := how4.size; simp; have := hlt4; omega
  have n2 : ∀ k ∈ GD, k ∉ [w.heap.size] := fun k hk => by have := (hGD k hk).1; have := how5.size; simp; have := hlt5; omega
  have eO : (readP l head).opts = (l.drop 20).take (head - 20) := rfl
  have eD : (readP l head).data = (l.drop head).take (n - head) := by
    rw [List.take_of_length_le (i := n - head) (by rw [List.length_drop]; omega)]
    rfl
  refine ⟨(AO, nO), (AD, nD), rfl, ⟨okR, ⟨GO, ?_, fun k hk => Nat.le_trans how4.size (hGO k hk).1⟩, ⟨GD, ?_, fun k hk => Nat.le_trans how5.size (hGD k hk).1⟩, ⟨?_, hmO⟩, ⟨?_, hmD⟩, ?_, ?_⟩, howz⟩
  · exact (hBO.o ho6).only hoZ n1
  · rw [eD]
    exact hBD.only hoZ n2
  · exact hcO
  · rw [eD]
    exact hcD
  · rw [eO, List.length_take, List.length_drop]
    omega
  · rw [eD, List.length_take, List.length_drop]
    omega
end Go.Proofs.YtofomopdaponbaaGreatDoor
/-
  The document's answer on packets (mosaicref05): options.
-/
namespace Go.Proofs.YtofomopdaponbaaGreatDoor
open Go.RowKit
set_option linter.unusedVariables false
set_option linter.unusedSimpArgs false

theorem optF_1 (f : Nat) (r : List UInt8) : optF (f + 1) (1 :: r) = optF f r := rfl
theorem optF_0 (f : Nat) (r : List UInt8) : optF (f + 1) (0 :: r) = if allZ r = true then 0 else 40 := rfl
theorem optF_end {f : Nat} {k : UInt8} (hk0 : k ≠ 0) (hk1 : k ≠ 1) : optF (f + 1) [k] = 40 := by
  show (if k = 0 then _ else if k = 1 then _ else (40 : Int)) = 40
  rw [if_neg hk0, if_neg hk1]
theorem optsOk_at {l : List UInt8} {n : Nat} (hl : l.length = n) (h4 : n % 4 = 0) (h40 : n ≤ 40) : optsOk l = decide (optF n l = 0) := by
  unfold optsOk
  rw [hl, decide_eq_true h40, decide_eq_true h4]
  rfl
set_option maxRecDepth 100000 in
theorem roptions_does {w : World} {G : List Nat} {A : Option Addr} {n c : Nat} {l : List UInt8} (h : Bs w G A n l) (hn : n ≤ 140737488355328) :
    Does Tryz.prog 183 [.slice A n c] w (fun v w' => v = .bool (optsOk l) ∧ w = w') := by
  have hl := h.len
  have em : (n : Int).tmod 4 = ((n % 4 : Nat) : Int) := by rw [Int.tmod_eq_emod_of_nonneg (by omega)]; omega
  refine Does.enter (fn := Tryz.f183) (by kernel_rfl) rfl (by kernel_rfl) (by kernel_rfl) ?_
  refine vc.abs fun N0 hN => ?_
  conv => whnf
  refine hN _ _ ?_
  refine vc.abs2 rfl fun N1 hN1 => ?_
  conv => whnf
  rw [em]
  refine VIf.ne (fun h1 => ?_) (fun h1 => ?_)
  · conv => whnf
    refine hN1 _ _ ?_
    conv => whnf
    exact ⟨by simp [optsOk, hl, show ¬ n % 4 = 0 by omega], rfl⟩
  have h4 : n % 4 = 0 := by omega
  conv => whnf
  refine hN1 _ _ ?_
  conv => whnf
  refine VIf.dec (fun h2 => ?_) (fun h2 => ?_)
  · have h2 : (n : Int) > 40 := h2
    conv => whnf
    exact ⟨by simp [optsOk, hl, show ¬ n ≤ 40 by omega], rfl⟩
  have h2 : ¬ (n : Int) > 40 := h2
  have hok := optsOk_at hl h4 (by omega)
  rw [hok]
  conv => whnf
  refine VLoop.inv (α := Nat × Nat) [(2, 5), (14, 76)] (fun s => [(3, .int .i64 (s.1 : Nat))]) (fun s w' => w = w' ∧ s.1 ≤ n ∧ n - s.1 ≤ s.2 ∧ optF s.2 (l.drop s.1) = optF n l) (fun s => n - s.1) (0, n) (by kernel_rfl) ⟨rfl, trivial⟩ ⟨rfl, Nat.zero_le _, Nat.le_refl _, rfl⟩ ?_
  rintro ⟨i, f⟩ wr j ⟨rfl, hi, hf, ho⟩
  dsimp only at hi hf ho
  conv => whnf
  refine VIf.dec (fun ht => ?_) (fun ht => ?_)
  rotate_left
  · have ht : ¬ (i : Int) < (n : Int) := ht
    obtain rfl : i = n := by omega
    conv => whnf
    refine ⟨congrArg Value.bool ?_, rfl⟩
    rw [← ho, List.drop_of_length_le (by omega), optF_nil]
    rfl
  have ht : (i : Int) < (n : Int) := ht
  have hi2 : i < l.length := by omega
  obtain ⟨f, rfl⟩ : ∃ g, f = g + 1 := ⟨f - 1, by omega⟩
  obtain ⟨b, off, rfl, -⟩ := h.some_ (by omega)
  have hdrop : l.drop i = l[i] :: l.drop (i + 1) := List.drop_eq_getElem_cons hi2
  obtain ⟨k, hk⟩ : ∃ k, l[i] = k := ⟨_, rfl⟩
  rw [hk] at hdrop
  have hk8 := u8_le k
  conv => whnf
  refine ⟨_, _, rfl, i, off + i, rfl, by omega, p1 _ _, ?_⟩
  conv => whnf
  (refine ⟨_, Loads.one (by kernel_rfl) (h.ld (c := k) (by rw [List.getElem?_eq_getElem hi2, hk])), ?_⟩; conv => whnf)
  refine VIf.eq (fun h0 => ?_) (fun h0 => ?_)
  · obtain rfl : k = 0 := UInt8.toNat_inj.1 (by simpa using h0)
    rw [hdrop, optF_0] at ho
    conv => whnf
    refine VLoop.inv (α := Nat) [(2, 3), (4, 5), (24, 35)] (fun x => [(4, .int .i64 (x : Nat))]) (fun x w' => w = w' ∧ i ≤ x ∧ x ≤ n ∧ allZ (l.drop x) = allZ (l.drop (i + 1))) (fun x => n - x) i (by kernel_rfl) ⟨rfl, trivial⟩ ⟨rfl, Nat.le_refl _, hi, by rw [hdrop]; simp [allZ]⟩ ?_
    rintro x wr2 j2 ⟨rfl, hx1, hx2, hz⟩
    conv => whnf
    refine VIf.dec (fun hx => ?_) (fun hx => ?_)
    · have hx : (x : Int) < (n : Int) := hx
      have hx3 : x < l.length := by omega
      conv => whnf
      refine ⟨_, _, rfl, x, off + x, rfl, by omega, p1 _ _, ?_⟩
      conv => whnf
      (refine ⟨_, Loads.one (by kernel_rfl) (h.ld (List.getElem?_eq_getElem hx3)), ?_⟩; conv => whnf)
      have hd2 : l.drop x = l[x] :: l.drop (x + 1) := List.drop_eq_getElem_cons hx3
      refine VIf.ne (fun e => ?_) (fun e => ?_)
      · conv => whnf
        refine ⟨congrArg Value.bool ?_, rfl⟩
        have hxne : ¬ l[x] = 0 := fun h => e (by rw [h]; rfl)
        have : allZ (l.drop (i + 1)) = false := by
          rw [← hz, hd2]
          show (l[x] :: l.drop (x + 1)).all (fun c => c == 0) = false
          rw [List.all_cons, beq_false_of_ne hxne, Bool.false_and]
        rw [← ho, this]
        rfl
      · conv => whnf
        refine ⟨x + 1, ⟨congrArg (Value.int IntKind.i64) (by rw [wi64]; omega), trivial⟩, ⟨rfl, by omega, by omega, ?_⟩, by omega⟩
        have hx0 : l[x] = 0 := UInt8.toNat_inj.1 (by simpa using e)
        rw [← hz, hd2, hx0]
        simp [allZ]
    · have hx : ¬ (x : Int) < (n : Int) := hx
      conv => whnf
      refine ⟨congrArg Value.bool ?_, rfl⟩
      rw [← ho, ← hz, List.drop_of_length_le (by omega)]
      rfl
  have hk0 : k ≠ 0 := fun e => h0 (by rw [e]; rfl)
  conv => whnf
  refine ⟨_, _, rfl, i, off + i, rfl, by omega, p1 _ _, ?_⟩
  conv => whnf
  (refine ⟨_, Loads.one (by kernel_rfl) (h.ld (c := k) (by rw [List.getElem?_eq_getElem hi2, hk])), ?_⟩; conv => whnf)
  refine VIf.eq (fun h1 => ?_) (fun h1 => ?_)
  · obtain rfl : k = 1 := UInt8.toNat_inj.1 (by have h1 : (k.toNat : Int) = 1 := h1; show k.toNat = 1; omega)
    rw [hdrop, optF_1] at ho
    conv => whnf
    refine ⟨(i + 1, f), ⟨congrArg (Value.int IntKind.i64) (by rw [wi64]; omega), trivial⟩, ⟨rfl, by omega, by omega, ho⟩, by omega⟩
  have hk1 : k ≠ 1 := fun e => h1 (by rw [e]; rfl)
  have ei : IntKind.i64.wrap ((i : Int) + 1) = ((i + 1 : Nat) : Int) := by rw [wi64]; omega
  refine vc.S ?_
  refine vc.abs2 rfl fun N2 hN2 => ?_
  conv => whnf
  rw [ei]
  refine VIf.dec (fun h2 => ?_) (fun h2 => ?_)
  · have h2 : ((i + 1 : Nat) : Int) ≥ (n : Int) := h2
    conv => whnf
    refine hN2 _ _ ?_
    conv => whnf
    refine ⟨congrArg Value.bool ?_, rfl⟩
    rw [← ho, hdrop, List.drop_of_length_le (by omega), optF_end hk0 hk1]
    rfl
  have h2 : ¬ ((i + 1 : Nat) : Int) ≥ (n : Int) := h2
  have hi3 : i + 1 < l.length := by omega
  have hd2 : l.drop (i + 1) = l[i + 1] :: l.drop (i + 2) := List.drop_eq_getElem_cons hi3
  obtain ⟨q, hq⟩ : ∃ q, l[i + 1] = q := ⟨_, rfl⟩
  rw [hq] at hd2
  have hlr : (l.drop (i + 1)).length = n - i - 1 := by rw [List.length_drop]; omega
  have hq8 := u8_le q
  have eq : IntKind.i64.wrap (q.toNat : Int) = (q.toNat : Int) := by rw [wi64]; omega
  have eiq : IntKind.i64.wrap ((i : Int) + (q.toNat : Int)) = ((i + q.toNat : Nat) : Int) := by rw [wi64]; omega
  conv => whnf
  refine ⟨_, _, rfl, i + 1, off + (i + 1), ei, by omega, p1 _ _, ?_⟩
  conv => whnf
  (refine ⟨_, Loads.one (by kernel_rfl) (h.ld (c := q) (by rw [List.getElem?_eq_getElem hi3, hq])), ?_⟩; conv => whnf)
  refine VIf.dec (fun h3 => ?_) (fun h3 => ?_)
  · conv => whnf
    refine hN2 _ _ ?_
    conv => whnf
    refine ⟨congrArg Value.bool ?_, rfl⟩
    rw [← ho, hdrop, hd2, optF_bad hk0 hk1 (.inl (by omega))]
    rfl
  conv => whnf
  refine ⟨_, _, rfl, i + 1, off + (i + 1), ei, by omega, p1 _ _, ?_⟩
  conv => whnf
  (refine ⟨_, Loads.one (by kernel_rfl) (h.ld (c := q) (by rw [List.getElem?_eq_getElem hi3, hq])), ?_⟩; conv => whnf)
  refine hN2 _ _ ?_
  conv => whnf
  rw [eq, eiq]
  refine VIf.dec (fun h5 => ?_) (fun h5 => ?_)
  · have h5 : ((i + q.toNat : Nat) : Int) > (n : Int) := h5
    conv => whnf
    refine ⟨congrArg Value.bool ?_, rfl⟩
    rw [← ho, hdrop, hd2, optF_bad hk0 hk1 (.inr (by rw [← hd2, hlr]; omega))]
    rfl
  have h5 : ¬ ((i + q.toNat : Nat) : Int) > (n : Int) := h5
  conv => whnf
  refine ⟨_, _, rfl, i + 1, off + (i + 1), ei, by omega, p1 _ _, ?_⟩
  conv => whnf
  (refine ⟨_, Loads.one (by kernel_rfl) (h.ld (c := q) (by rw [List.getElem?_eq_getElem hi3, hq])), ?_⟩; conv => whnf)
  refine ⟨(i + q.toNat, f), ⟨congrArg (Value.int IntKind.i64) (by rw [eq, eiq]), trivial⟩, ⟨rfl, by omega, by omega, ?_⟩, by omega⟩
  show optF f (l.drop (i + q.toNat)) = optF n l
  rw [← ho, hdrop, hd2, optF_go hk0 hk1 (by rw [← hd2, hlr]; omega), ← hd2, ← hdrop, List.drop_drop]
end Go.Proofs.YtofomopdaponbaaGreatDoor
