/-
  The document's nat (mosaicref30): plain, inside, outside, end, out, free.
-/
import Derived.Test.YtofomopdaponbaaGreatDoorZw
import Derived.Test.YtofomopdaponbaaGreatDoorZt
import Derived.Test.YtofomopdaponbaaGreatDoorYNin
namespace Go.Proofs.YtofomopdaponbaaGreatDoor
open Go.RowKit
set_option linter.unusedVariables false
set_option linter.unusedSimpArgs false

theorem Sl.fld {α : Type} {enc : α → List Value} {w : World} {size n b off i j : Nat} {G : List Nat} {z : List α} {v : Value} (h : Sl w size G (some ⟨b, off, none⟩) n (z.flatMap enc)) (hlen : ∀ x, (enc x).length = size) (hi : i < z.length) (hj : (enc z[i])[j]? = some v) : w.cell? ⟨b, off + i * size + j, none⟩ = some v := by
  have hj2 : j < size := by
    have := (List.getElem?_eq_some_iff.1 hj).1
    rwa [hlen] at this
  rw [Nat.add_assoc]
  exact h.ld (by rw [flat_get hlen z i j hi hj2]; exact hj)
theorem Sl.sub {P : Program} {t : TypeId} {α : Type} {enc : α → List Value} {w : World} {size n b off i o : Nat} {G : List Nat} {z : List α} {ps cs bs : List Value} (h : Sl w size G (some ⟨b, off, none⟩) n (z.flatMap enc)) (hlen : ∀ x, (enc x).length = size) (hi : i < z.length)
    (he : enc z[i] = ps ++ (cs ++ bs)) (ho : ps.length = o) (ha : aggC P t = true) (hs : sizeOfT P t = some cs.length) : Loads P t ⟨b, off + i * size + o, none⟩ w (.agg ⟨cs⟩) :=
  Loads.many ha hs fun j u hu => by
    rw [Nat.add_assoc (off + i * size)]
    refine h.fld hlen hi ?_
    have hj : j < cs.length := (List.getElem?_eq_some_iff.1 hu).1
    subst ho
    rw [he, List.getElem?_append_right (by omega), show ps.length + j - ps.length = j by omega, List.getElem?_append_left hj]
    exact hu
theorem nmC_addr (m : Nm) : nmC m = [] ++ (adP m.addr ++ [.int .i64 m.port, .int .i64 m.out, .int .i64 m.used]) := rfl
theorem ntC_key (x : Nt) : ntC x = [] ++ (kyC x.key ++ (adP x.addr ++ [.int .i64 x.from_])) := rfl
theorem ntC_addr (x : Nt) : ntC x = kyC x.key ++ (adP x.addr ++ [.int .i64 x.from_]) := rfl
theorem ntC_from (x : Nt) : (ntC x)[54]? = some (.int .i64 x.from_) := by
  unfold ntC
  rw [List.getElem?_append_right (by rw [kyC_len]; decide), kyC_len, List.getElem?_append_right (by rw [adP_len]; decide), adP_len]
  rfl
def plainA (a : Ad) : Bool := decide (a.1 = 4) && decide (kindA a = 5)
set_option maxRecDepth 100000 in
theorem rplain_does {w : World} {a : Ad} (h : okAd a) : Does Tryz.prog 107 [.agg ⟨adC a⟩] w (fun v w' => v = .bool (plainA a) ∧ Only [] w w') := by
  have hb := Blk.new w 24 ⟨adC a⟩
  have ho : Only [] w (w.alloc (.cells ⟨adC a⟩ 24)) := (Only.refl [] w).alloc _
  refine Does.enter (fn := Tryz.f107) (by kernel_rfl) rfl (by kernel_rfl) (by kernel_rfl) ?_
  conv => whnf
  (refine ⟨_, Loads.one (by kernel_rfl) (hb.at (i := 0) rfl), ?_⟩; conv => whnf)
  refine VIf.eq (fun h4 => ?_) (fun h4 => ?_)
  · conv => whnf
    refine ⟨_, Loads.all hb (by kernel_rfl) (by rw [adC_len h]; kernel_rfl), ?_⟩
    conv => whnf
    (refine (rkind_does h).mono ?_; rintro v w1 ⟨rfl, ho1⟩)
    conv => whnf
    refine ⟨congrArg Value.bool ?_, ho.t0 ho1⟩
    unfold plainA
    rw [decide_eq_true h4]
    rfl
  · conv => whnf
    refine ⟨congrArg Value.bool ?_, ho⟩
    unfold plainA
    rw [decide_eq_false h4]
    rfl
set_option maxRecDepth 100000 in
theorem rinside_does {w : World} {T : Nat} {t : TypeId} {c : Cf} {now : Int} {M O I : Value} {a : Ad} (hb : Blk w T t ⟨natC c now M O I⟩) (ok : okCf c) (ha : okAd a) :
    Does Tryz.prog 122 [.pointer (some ⟨T, 0, none⟩), .agg ⟨adC a⟩] w (fun v w' => v = .bool (plainA a && withinA a c.net c.bits) ∧ Only [] w w') := by
  have b3 := Blk.new w 24 ⟨adC a⟩
  have hA : Only [] w (w.alloc (.cells ⟨adC a⟩ 24)) := (Only.refl [] w).alloc _
  refine Does.enter (fn := Tryz.f122) (by kernel_rfl) rfl (by kernel_rfl) (by kernel_rfl) ?_
  conv => whnf
  refine VDraw.abs fun N0 hN => ?_
  refine VDraw.q (by kernel_rfl) (by kernel_rfl) ?_
  conv => whnf
  refine ⟨_, fun w' hw' => Loads.all (b3.only hw' (by simp)) (by kernel_rfl) (by rw [adC_len ha]; kernel_rfl), ?_⟩
  conv => whnf
  refine ⟨_, fun w' hw' => (rplain_does ha).q hw', ?_⟩
  conv => whnf
  refine VIf.of (b := plainA a) (fun h1 => ?_) (fun h1 => ?_)
  · conv => whnf
    refine ⟨_, fun w' hw' => Loads.all (b3.only hw' (by simp)) (by kernel_rfl) (by rw [adC_len ha]; kernel_rfl), ?_⟩
    conv => whnf
    refine ⟨_, fun w' hw' => (hb.only (hA.t0 hw') (by simp)).ntNet ok, ?_⟩
    conv => whnf
    (refine ⟨_, fun w' hw' => Loads.one (by kernel_rfl) ((hb.only (hA.t0 hw') (by simp)).ntBits ok), ?_⟩; conv => whnf)
    refine ⟨_, fun w' hw' => (rwithin_does ha ok.net).q hw', ?_⟩
    conv => whnf
    intro w2 ho2
    conv => whnf
    refine hN _ _ ?_
    conv => whnf
    exact ⟨congrArg Value.bool (by rw [rwithin_eq ha ok.net, h1, Bool.true_and]), hA.t0 ho2⟩
  · conv => whnf
    intro w2 ho2
    conv => whnf
    refine hN _ _ ?_
    conv => whnf
    exact ⟨congrArg Value.bool (by rw [h1, Bool.false_and]), hA.t0 ho2⟩
theorem inside_eq {c : Cf} {a : Ad} (h4 : a.1 = 4) : (plainA a && withinA a c.net c.bits) = insideA c a := by
  unfold plainA insideA
  rw [decide_eq_true h4, Bool.true_and]
theorem outside_eq {c : Cf} {a : Ad} : (plainA a && (!(plainA a && withinA a c.net c.bits) && !decide (a = c.outside))) = outsideA c a := by
  unfold outsideA plainA
  cases decide (a.1 = 4) <;> cases decide (kindA a = 5) <;> simp
set_option maxRecDepth 100000 in
theorem routside_does {w : World} {T : Nat} {t : TypeId} {c : Cf} {now : Int} {M O I : Value} {a : Ad} (hb : Blk w T t ⟨natC c now M O I⟩) (ok : okCf c) (ha : okAd a) :
    Does Tryz.prog 111 [.pointer (some ⟨T, 0, none⟩), .agg ⟨adC a⟩] w (fun v w' => v = .bool (outsideA c a) ∧ Only [] w w') := by
  have b3 := Blk.new w 24 ⟨adC a⟩
  have hA : Only [] w (w.alloc (.cells ⟨adC a⟩ 24)) := (Only.refl [] w).alloc _
  rw [← outside_eq]
  refine Does.enter (fn := Tryz.f111) (by kernel_rfl) rfl (by kernel_rfl) (by kernel_rfl) ?_
  conv => whnf
  refine VDraw.abs fun N0 hN => ?_
  refine VDraw.q (by kernel_rfl) (by kernel_rfl) ?_
  conv => whnf
  refine ⟨_, fun w' hw' => Loads.all (b3.only hw' (by simp)) (by kernel_rfl) (by rw [adC_len ha]; kernel_rfl), ?_⟩
  conv => whnf
  refine ⟨_, fun w' hw' => (rplain_does ha).q hw', ?_⟩
  conv => whnf
  refine VIf.of (b := plainA a) (fun h1 => ?_) (fun h1 => ?_)
  · rw [h1]
    conv => whnf
    refine ⟨_, fun w' hw' => Loads.all (b3.only hw' (by simp)) (by kernel_rfl) (by rw [adC_len ha]; kernel_rfl), ?_⟩
    conv => whnf
    refine ⟨_, fun w' hw' => (rinside_does (hb.only (hA.t0 hw') (by simp)) ok ha).q hw', ?_⟩
    rw [h1, Bool.true_and]
    conv => whnf
    refine VIf.not (VIf.of (b := withinA a c.net c.bits) (fun h2 => ?_) (fun h2 => ?_))
    · conv => whnf
      intro w2 ho2
      conv => whnf
      refine hN _ _ ?_
      conv => whnf
      exact ⟨congrArg Value.bool (by rw [h1, h2]; simp), hA.t0 ho2⟩
    · conv => whnf
      refine ⟨_, fun w' hw' => Loads.all (b3.only hw' (by simp)) (by kernel_rfl) (by rw [adC_len ha]; kernel_rfl), ?_⟩
      conv => whnf
      refine ⟨_, fun w' hw' => (hb.only (hA.t0 hw') (by simp)).ntOutside ok, ?_⟩
      conv => whnf
      refine ⟨_, eql_ad ha ok.outside _ _, ?_⟩
      conv => whnf
      intro w2 ho2
      conv => whnf
      refine hN _ _ ?_
      conv => whnf
      exact ⟨congrArg Value.bool (by rw [h1, h2]; simp), hA.t0 ho2⟩
  · conv => whnf
    intro w2 ho2
    conv => whnf
    refine hN _ _ ?_
    conv => whnf
    exact ⟨congrArg Value.bool (by rw [h1, Bool.false_and]), hA.t0 ho2⟩
theorem idxI_at {α : Type} {p : α → Bool} {z : List α} {i : Nat} (hi : i < z.length) (h0 : ∀ x ∈ z.take i, p x = false) (h1 : p z[i] = true) : idxI p z = (i : Nat) := by
  unfold idxI
  have : z.findIdx? p = some i := List.findIdx?_eq_some_iff_getElem.2 ⟨hi, h1, fun j hj => by
    have := h0 z[j] (by rw [List.mem_take_iff_getElem]; exact ⟨j, by omega, rfl⟩)
    rw [this]
    decide⟩
  rw [this]
theorem idxI_no {α : Type} {p : α → Bool} {z : List α} (h0 : ∀ x ∈ z, p x = false) : idxI p z = -1 := by
  unfold idxI
  rw [List.findIdx?_eq_none_iff.2 h0]
theorem take_all_snoc {α : Type} {z : List α} {i : Nat} {p : α → Prop} (hi : i < z.length) (h : ∀ x ∈ z.take i, p x) (h1 : p z[i]) : ∀ x ∈ z.take (i + 1), p x := by
  intro x hx
  rw [take_snoc' hi] at hx
  rcases List.mem_append.1 hx with hx | hx
  · exact h x hx
  · rw [List.mem_singleton.1 hx]
    exact h1
set_option maxRecDepth 100000 in
theorem rout_does {w : World} {T : Nat} {t : TypeId} {c : Cf} {now port : Int} {A : Option Addr} {n cc : Nat} {G : List Nat} {O I : Value} {z : List Nm} (hb : Blk w T t ⟨natC c now (.slice A n cc) O I⟩) (ok : okCf c) (hz : Sl w 20 G A n (z.flatMap nmC)) (hn : n ≤ 1000000) :
    Does Tryz.prog 116 [.pointer (some ⟨T, 0, none⟩), .int .i64 port] w (fun v w' => v = .int .i64 (idxI (outIs port) z) ∧ Only [] w w') := by
  have hzn := hz.num nmC_len (by decide)
  refine Does.enter (fn := Tryz.f116) (by kernel_rfl) rfl (by kernel_rfl) (by kernel_rfl) ?_
  conv => whnf
  refine VLoop.inv (α := Nat) [(4, 26)] (fun i => [(5, .int .i64 i)]) (fun i w' => i ≤ n ∧ (∀ x ∈ z.take i, outIs port x = false) ∧ Only [] w w') (fun i => n - i) 0 (by kernel_rfl) ⟨rfl, trivial⟩ ⟨Nat.zero_le _, by simp, Only.refl _ _⟩ ?_
  rintro i wr j ⟨hi, hp, ho⟩
  have hbr := hb.only ho (by simp)
  conv => whnf
  (refine ⟨_, Loads.one (by kernel_rfl) (hbr.ntM ok), ?_⟩; conv => whnf)
  refine VIf.dec (fun ht => ?_) (fun ht => ?_)
  rotate_left
  · have ht : ¬ (i : Int) < (n : Int) := ht
    conv => whnf
    refine ⟨congrArg (Value.int .i64) ?_, ho⟩
    rw [List.take_of_length_le (by omega)] at hp
    exact (idxI_no hp).symm
  have ht : (i : Int) < (n : Int) := ht
  have hil : i < z.length := by omega
  obtain ⟨b, off, rfl, -⟩ := hz.some_ (by omega)
  conv => whnf
  (refine ⟨_, Loads.one (by kernel_rfl) (hbr.ntM ok), ?_⟩; conv => whnf)
  refine ⟨_, _, rfl, i, off + i * 20, rfl, by omega, rfl, ?_⟩
  conv => whnf
  (refine ⟨_, Loads.one (by kernel_rfl) ((hz.o ho).fld nmC_len hil (nmC_out _)), ?_⟩; conv => whnf)
  refine VIf.eq (fun h1 => ?_) (fun h1 => ?_)
  · conv => whnf
    refine ⟨congrArg (Value.int .i64) ?_, ho⟩
    refine (idxI_at hil hp ?_).symm
    unfold outIs
    rw [h1]
    simp
  · conv => whnf
    refine ⟨i + 1, ⟨congrArg (Value.int .i64) (by rw [wi64]; omega), trivial⟩, ⟨by omega, take_all_snoc hil hp ?_, ho⟩, by omega⟩
    unfold outIs
    simpa using h1
set_option maxRecDepth 100000 in
theorem rend_does {w : World} {T : Nat} {t : TypeId} {c : Cf} {now port : Int} {a : Ad} {A : Option Addr} {n cc : Nat} {G : List Nat} {O I : Value} {z : List Nm} (hb : Blk w T t ⟨natC c now (.slice A n cc) O I⟩) (ok : okCf c) (ha : okAd a) (hz : Sl w 20 G A n (z.flatMap nmC)) (okz : ∀ m ∈ z, okAd m.addr) (hn : n ≤ 1000000) :
    Does Tryz.prog 124 [.pointer (some ⟨T, 0, none⟩), .agg ⟨adC a⟩, .int .i64 port] w (fun v w' => v = .int .i64 (idxI (endIs a port) z) ∧ Only [] w w') := by
  have hzn := hz.num nmC_len (by decide)
  have b4 := Blk.new w 24 ⟨adC a⟩
  have hA : Only [] w (w.alloc (.cells ⟨adC a⟩ 24)) := (Only.refl [] w).alloc _
  refine Does.enter (fn := Tryz.f124) (by kernel_rfl) rfl (by kernel_rfl) (by kernel_rfl) ?_
  conv => whnf
  refine VLoop.inv (α := Nat) [(6, 40)] (fun i => [(7, .int .i64 i)]) (fun i w' => i ≤ n ∧ (∀ x ∈ z.take i, endIs a port x = false) ∧ Only [] (w.alloc (.cells ⟨adC a⟩ 24)) w') (fun i => n - i) 0 (by kernel_rfl) ⟨rfl, trivial⟩ ⟨Nat.zero_le _, by simp, Only.refl _ _⟩ ?_
  rintro i wr j ⟨hi, hp, ho⟩
  have how := hA.t0 ho
  have hbr := hb.only how (by simp)
  have b4r := b4.only ho (by simp)
  conv => whnf
  (refine ⟨_, Loads.one (by kernel_rfl) (hbr.ntM ok), ?_⟩; conv => whnf)
  refine VIf.dec (fun ht => ?_) (fun ht => ?_)
  rotate_left
  · have ht : ¬ (i : Int) < (n : Int) := ht
    conv => whnf
    refine ⟨congrArg (Value.int .i64) ?_, how⟩
    rw [List.take_of_length_le (by omega)] at hp
    exact (idxI_no hp).symm
  have ht : (i : Int) < (n : Int) := ht
  have hil : i < z.length := by omega
  obtain ⟨b, off, rfl, -⟩ := hz.some_ (by omega)
  have okm := okz _ (List.getElem_mem hil)
  have hzr := hz.o how
  conv => whnf
  refine VDraw.abs fun N0 hN => ?_
  refine VDraw.q (by kernel_rfl) (by kernel_rfl) ?_
  conv => whnf
  (refine ⟨_, fun w' hw' => Loads.one (by kernel_rfl) ((hbr.only hw' (by simp)).ntM ok), ?_⟩; conv => whnf)
  refine ⟨_, _, rfl, i, off + i * 20, rfl, by omega, rfl, ?_⟩
  conv => whnf
  refine ⟨_, fun w' hw' => (hzr.o hw').sub nmC_len hil (nmC_addr _) rfl (by kernel_rfl) (by rw [adP_len]; kernel_rfl), ?_⟩
  conv => whnf
  refine ⟨_, fun w' hw' => Loads.all (b4r.only hw' (by simp)) (by kernel_rfl) (by rw [adC_len ha]; kernel_rfl), ?_⟩
  conv => whnf
  rw [adP_id okm]
  refine ⟨_, eql_ad okm ha _ _, ?_⟩
  conv => whnf
  refine VIf.of (b := decide (z[i].addr = a)) (fun h1 => ?_) (fun h1 => ?_)
  · have h1 := of_decide_eq_true h1
    conv => whnf
    (refine ⟨_, fun w' hw' => Loads.one (by kernel_rfl) ((hbr.only hw' (by simp)).ntM ok), ?_⟩; conv => whnf)
    refine ⟨_, _, rfl, i, off + i * 20, rfl, by omega, rfl, ?_⟩
    conv => whnf
    (refine ⟨_, fun w' hw' => Loads.one (by kernel_rfl) ((hzr.o hw').fld nmC_len hil ((nm_tail _ 0).trans rfl)), ?_⟩; conv => whnf)
    intro w2 ho2
    conv => whnf
    refine hN _ _ ?_
    conv => whnf
    refine VIf.eq (fun h2 => ?_) (fun h2 => ?_)
    · conv => whnf
      refine ⟨congrArg (Value.int .i64) ?_, how.t0 ho2⟩
      refine (idxI_at hil hp ?_).symm
      unfold endIs
      rw [h1, h2]
      simp
    · conv => whnf
      refine ⟨i + 1, ⟨congrArg (Value.int .i64) (by rw [wi64]; omega), trivial⟩, ⟨by omega, take_all_snoc hil hp ?_, ho.t0 ho2⟩, by omega⟩
      unfold endIs
      rw [h1]
      simpa using h2
  · have h1 := of_decide_eq_false h1
    conv => whnf
    intro w2 ho2
    conv => whnf
    refine hN _ _ ?_
    conv => whnf
    refine ⟨i + 1, ⟨congrArg (Value.int .i64) (by rw [wi64]; omega), trivial⟩, ⟨by omega, take_all_snoc hil hp ?_, ho.t0 ho2⟩, by omega⟩
    unfold endIs
    rw [decide_eq_false h1, Bool.false_and]
end Go.Proofs.YtofomopdaponbaaGreatDoor
/-
  The document's nat (mosaicref30): free, found, keyOf, lives, noted, begin.
-/
namespace Go.Proofs.YtofomopdaponbaaGreatDoor
open Go.RowKit
set_option linter.unusedVariables false
set_option linter.unusedSimpArgs false

theorem outIs_eq (p : Int) : (outIs p) = (fun m : Nm => m.out == p) := rfl
set_option maxRecDepth 100000 in
theorem rfree_does {w : World} {T : Nat} {t : TypeId} {c : Cf} {now : Int} {A : Option Addr} {n cc : Nat} {G : List Nat} {O I : Value} {z : List Nm} (hb : Blk w T t ⟨natC c now (.slice A n cc) O I⟩) (ok : okCf c) (h1 : 1 ≤ c.first) (h2 : c.last ≤ 65535) (hz : Sl w 20 G A n (z.flatMap nmC)) (hn : n ≤ 1000000) :
    Does Tryz.prog 190 [.pointer (some ⟨T, 0, none⟩)] w (fun v w' => v = .int .i64 ((freeFrom z c.first (c.last + 1 - c.first).toNat).getD 0) ∧ Only [] w w') := by
  refine Does.enter (fn := Tryz.f190) (by kernel_rfl) rfl (by kernel_rfl) (by kernel_rfl) ?_
  conv => whnf
  (refine ⟨_, Loads.one (by kernel_rfl) (hb.ntFirst ok), ?_⟩; conv => whnf)
  refine VLoop.inv (α := Nat) [(2, 23)] (fun i => [(3, .int .i64 (c.first + (i : Nat)))]) (fun i w' => (i : Int) ≤ max 0 (c.last + 1 - c.first) ∧ freeFrom z c.first (c.last + 1 - c.first).toNat = freeFrom z (c.first + (i : Nat)) ((c.last + 1 - c.first).toNat - i) ∧ Only [] w w') (fun i => 65536 - i) 0 (by kernel_rfl) ⟨congrArg (Value.int .i64) (by omega), trivial⟩ ⟨by omega, by simp, Only.refl _ _⟩ ?_
  rintro i wr j ⟨hi, hf, ho⟩
  have hbr := hb.only ho (by simp)
  conv => whnf
  (refine ⟨_, Loads.one (by kernel_rfl) (hbr.ntLast ok), ?_⟩; conv => whnf)
  refine VIf.dec (fun ht => ?_) (fun ht => ?_)
  rotate_left
  · have ht : ¬ c.first + (i : Int) ≤ c.last := ht
    have e0 : (c.last + 1 - c.first).toNat - i = 0 := by omega
    rw [e0] at hf
    conv => whnf
    refine ⟨congrArg (Value.int .i64) ?_, ho⟩
    rw [hf]
    rfl
  have ht : c.first + (i : Int) ≤ c.last := ht
  obtain ⟨k, hk⟩ : ∃ k, (c.last + 1 - c.first).toNat - i = k + 1 := ⟨(c.last + 1 - c.first).toNat - i - 1, by omega⟩
  rw [hk] at hf
  have hu : freeFrom z (c.first + (i : Nat)) (k + 1) = if idxI (outIs (c.first + (i : Nat))) z < 0 then some (c.first + (i : Nat)) else freeFrom z (c.first + (i : Nat) + 1) k := rfl
  rw [hu] at hf
  conv => whnf
  (refine (rout_does hbr ok (hz.o ho) hn).mono ?_; rintro v w1 ⟨rfl, ho1⟩)
  conv => whnf
  refine VIf.dec (fun h3 => ?_) (fun h3 => ?_)
  · rw [if_pos h3] at hf
    conv => whnf
    refine ⟨congrArg (Value.int .i64) ?_, ho.t0 ho1⟩
    rw [hf]
    rfl
  · rw [if_neg h3] at hf
    conv => whnf
    refine ⟨i + 1, ⟨congrArg (Value.int .i64) (by rw [wi64]; omega), trivial⟩, ⟨by omega, ?_, ho.t0 ho1⟩, by omega⟩
    rw [hf]
    have e1 : (c.last + 1 - c.first).toNat - (i + 1) = k := by omega
    have e2 : c.first + ((i + 1 : Nat) : Int) = c.first + (i : Nat) + 1 := by omega
    rw [e1, e2]
set_option maxRecDepth 100000 in
theorem rkeyOf_does {w : World} {p : Pk} {O D : At} (hp : okPk p) : Does Tryz.prog 114 [.agg ⟨pkC p O D⟩] w (fun v w' => v = .agg ⟨kyC (kyP p)⟩ ∧ Only [] w w') := by
  have hA := Only.alloc (Only.refl [] w) (.cells ⟨pkC p O D⟩ 56)
  have hb := Blk.new w 56 ⟨pkC p O D⟩
  have e1 := adP_id hp.src
  have e2 := adP_id hp.dst
  refine Does.enter (fn := Tryz.f114) (by kernel_rfl) rfl (by kernel_rfl) (by kernel_rfl) ?_
  conv => whnf
  have hA2 := hA.alloc (.cells ⟨kyC ⟨0, (0, []), (0, []), 0, 0⟩⟩ 173)
  have b2 := Blk.new (w.alloc (.cells ⟨pkC p O D⟩ 56)) 173 ⟨kyC ⟨0, (0, []), (0, []), 0, 0⟩⟩
  have hb := hb.alloc (.cells ⟨kyC ⟨0, (0, []), (0, []), 0, 0⟩⟩ 173)
  (refine ⟨_, Loads.one (by kernel_rfl) (hb.pkV), ?_⟩; conv => whnf)
  refine ⟨_, hb.pkSrc hp, ?_⟩
  conv => whnf
  refine ⟨_, hb.pkDst hp, ?_⟩
  conv => whnf
  (refine ⟨_, Loads.one (by kernel_rfl) (hb.pkProto hp), ?_⟩; conv => whnf)
  (refine ⟨_, Loads.one (by kernel_rfl) (hb.pkId hp), ?_⟩; conv => whnf)
  refine lenIs.of (by rw [List.length_map]; exact hp.src.2.2) ?_
  conv => whnf
  refine lenIs.of (by rw [List.length_map]; exact hp.dst.2.2) ?_
  conv => whnf
  have hk : joinL [[.int .i64 p.v], adC p.src, adC p.dst, [.int .i64 p.proto], [.int .u32 p.id]] = kyC (kyP p) := by simp [joinL, kyC, kyP, e1, e2]
  show ∃ w', Stores _ _ ⟨_, 0, none⟩ (.agg ⟨joinL [[.int .i64 p.v], adC p.src, adC p.dst, [.int .i64 p.proto], [.int .u32 p.id]]⟩) ((w.alloc (.cells ⟨pkC p O D⟩ 56)).alloc (.cells ⟨kyC ⟨0, (0, []), (0, []), 0, 0⟩⟩ 173)) w' ∧ _
  rw [hk]
  refine vStore.fresh (cs := kyC (kyP p)) (by rw [kyC_len]; kernel_rfl) (by rw [kyC_len]; rfl) (one_kyC _) (fun w2 b2 ho2 hz2 => ?_)
  conv => whnf
  refine ⟨_, Loads.all b2 (by kernel_rfl) (by rw [kyC_len]; kernel_rfl), ?_⟩
  conv => whnf
  exact ⟨rfl, hA.t0 ho2⟩
theorem recA_at {k : Ky} {z : List Nt} {i : Nat} (hi : i < z.length) (h0 : ∀ x ∈ z.take i, decide (x.key = k) = false) (h1 : z[i].key = k) : recA k z = (z[i].addr, true) := by
  unfold recA
  have : z.find? (fun x => decide (x.key = k)) = some z[i] := List.find?_eq_some_iff_getElem.2 ⟨decide_eq_true h1, i, hi, rfl, fun j hj => by
    have := h0 z[j] (by rw [List.mem_take_iff_getElem]; exact ⟨j, by omega, rfl⟩)
    rw [this]
    rfl⟩
  rw [this]
theorem recA_no {k : Ky} {z : List Nt} (h0 : ∀ x ∈ z, decide (x.key = k) = false) : recA k z = ((0, List.replicate 16 0), false) := by
  unfold recA
  have : z.find? (fun x => decide (x.key = k)) = none := List.find?_eq_none.2 (fun x hx => by rw [h0 x hx]; decide)
  rw [this]
set_option maxRecDepth 100000 in
theorem rfound_does {w : World} {k : Ky} {A : Option Addr} {n cc : Nat} {G : List Nat} {z : List Nt} (hk : okKy k) (hz : Sl w 55 G A n (z.flatMap ntC)) (okz : ∀ x ∈ z, okKy x.key ∧ okAd x.addr) (hn : n ≤ 1000000) :
    Does Tryz.prog 113 [.slice A n cc, .agg ⟨kyC k⟩] w (fun v w' => v = .tuple ⟨[.agg ⟨adC (recA k z).1⟩, .bool (recA k z).2]⟩ ∧ Only [] w w') := by
  have hzn := hz.num ntC_len (by decide)
  have b3 := (Blk.new w 173 ⟨kyC k⟩).alloc (.cells ⟨adC zeroA⟩ 24)
  have b4 := Blk.new (w.alloc (.cells ⟨kyC k⟩ 173)) 24 ⟨adC zeroA⟩
  have hA := ((Only.refl [] w).alloc (.cells ⟨kyC k⟩ 173)).alloc (.cells ⟨adC zeroA⟩ 24)
  have hz4 := World.size_alloc w (.cells ⟨kyC k⟩ 173)
  refine Does.enter (fn := Tryz.f113) (by kernel_rfl) rfl (by kernel_rfl) (by kernel_rfl) ?_
  conv => whnf
  refine VLoop.inv (α := Nat) [(5, 25)] (fun i => [(6, .int .i64 i)]) (fun i w' => i ≤ n ∧ (∀ x ∈ z.take i, decide (x.key = k) = false) ∧ Only [] ((w.alloc (.cells ⟨kyC k⟩ 173)).alloc (.cells ⟨adC zeroA⟩ 24)) w') (fun i => n - i) 0 (by kernel_rfl) ⟨rfl, trivial⟩ ⟨Nat.zero_le _, by simp, Only.refl _ _⟩ ?_
  rintro i wr j ⟨hi, hp, ho⟩
  have how := hA.t0 ho
  have b3r := b3.only ho (by simp)
  have b4r := b4.only ho (by simp)
  conv => whnf
  refine VIf.dec (fun ht => ?_) (fun ht => ?_)
  rotate_left
  · have ht : ¬ (i : Int) < (n : Int) := ht
    conv => whnf
    refine vStore.all (cs := adC zeroA) b4r (by kernel_rfl) rfl (one_adC _) (fun wz bz hoZ _ => ?_)
    conv => whnf
    refine ⟨_, Loads.all bz (by kernel_rfl) (by kernel_rfl), ?_⟩
    conv => whnf
    refine ⟨?_, how.nw hoZ (by rw [hz4]; omega)⟩
    rw [List.take_of_length_le (by omega)] at hp
    rw [recA_no hp]
    rfl
  have ht : (i : Int) < (n : Int) := ht
  have hil : i < z.length := by omega
  obtain ⟨b, off, rfl, -⟩ := hz.some_ (by omega)
  have okx := okz _ (List.getElem_mem hil)
  have hzr := hz.o how
  conv => whnf
  refine VDraw.abs fun N0 hN => ?_
  refine VDraw.q (by kernel_rfl) (by kernel_rfl) ?_
  conv => whnf
  refine ⟨_, _, rfl, i, off + i * 55, rfl, by omega, rfl, ?_⟩
  conv => whnf
  refine ⟨_, fun w' hw' => (hzr.o hw').sub ntC_len hil (ntC_key _) rfl (by kernel_rfl) (by rw [kyC_len]; kernel_rfl), ?_⟩
  conv => whnf
  refine ⟨_, fun w' hw' => Loads.all (b3r.only hw' (by simp)) (by kernel_rfl) (by rw [kyC_len]; kernel_rfl), ?_⟩
  conv => whnf
  refine ⟨_, eql_ky okx.1 hk _ _, ?_⟩
  conv => whnf
  intro w2 ho2
  conv => whnf
  refine hN _ _ ?_
  have hw2 := how.t0 ho2
  have b42 := b4r.only ho2 (by simp)
  by_cases hx : z[i].key = k
  · refine vc.T (congrArg Value.bool (decide_eq_true hx)) ?_
    conv => whnf
    refine ⟨_, _, rfl, i, off + i * 55, rfl, by omega, rfl, ?_⟩
    conv => whnf
    refine ⟨_, (hz.o hw2).sub ntC_len hil (ntC_addr _) (kyC_len _) (by kernel_rfl) (by rw [adP_len]; kernel_rfl), ?_⟩
    conv => whnf
    rw [adP_id okx.2]
    refine vStore.all (cs := adC z[i].addr) b42 (by rw [adC_len okx.2]; kernel_rfl) (by rw [adC_len okx.2]; rfl) (one_adC _) (fun wz bz hoZ _ => ?_)
    conv => whnf
    refine ⟨_, Loads.all bz (by kernel_rfl) (by rw [adC_len okx.2]; kernel_rfl), ?_⟩
    conv => whnf
    refine ⟨?_, hw2.nw hoZ (by rw [hz4]; omega)⟩
    rw [recA_at hil hp hx]
  · refine vc.N (congrArg Value.bool (decide_eq_false hx)) ?_
    refine vc.S ?_
    conv => whnf
    exact ⟨i + 1, ⟨congrArg (Value.int .i64) (by rw [wi64]; omega), trivial⟩, ⟨by omega, take_all_snoc hil hp (decide_eq_false hx), ho.t0 ho2⟩, by omega⟩
theorem filter_snoc {α : Type} {p : α → Bool} {z : List α} {i : Nat} (hi : i < z.length) : (z.take (i + 1)).filter p = (z.take i).filter p ++ (if p z[i] = true then [z[i]] else []) := by
  rw [take_snoc' hi, List.filter_append, List.filter_cons]
  rfl
set_option maxRecDepth 100000 in
theorem rlives_does {w : World} {T : Nat} {t : TypeId} {c : Cf} {now : Int} {M O I : Value} {A : Option Addr} {n cc : Nat} {G : List Nat} {z : List Nt} (hb : Blk w T t ⟨natC c now M O I⟩) (ok : okCf c) (hz : Sl w 55 G A n (z.flatMap ntC)) (hn : n ≤ 1000000) :
    Does Tryz.prog 176 [.pointer (some ⟨T, 0, none⟩), .slice A n cc] w (fun v w' => Own w w' 226 55 ((z.filter (fun x => !aged now x.from_ c.hold)).flatMap ntC) v) := by
  have hzn := hz.num ntC_len (by decide)
  refine Does.enter (fn := Tryz.f176) (by kernel_rfl) rfl (by kernel_rfl) (by kernel_rfl) ?_
  conv => whnf
  refine VLoop.inv (α := Nat × Option Addr × Nat × Nat) [(4, 36)] (fun | (i, B, m, d) => [(5, .slice B m d), (6, .int .i64 (i : Nat))]) (fun | (i, B, m, d) => fun w' => i ≤ n ∧ m ≤ i ∧ ∃ F, Row w' 226 55 F B m d (((z.take i).filter (fun x => !aged now x.from_ c.hold)).flatMap ntC) ∧ Only [] w w' ∧ ∀ k ∈ F, w.heap.size ≤ k) (fun | (i, B, m, d) => n - i) (0, none, 0, 0) (by kernel_rfl) ⟨rfl, rfl, trivial⟩ ⟨Nat.zero_le _, Nat.le_refl _, [], Row.nil _ _ _ _, Only.refl _ _, by simp⟩ ?_
  rintro ⟨i, B, m, d⟩ wr j ⟨hi, hm, F, hrow, ho, hF⟩
  conv => whnf
  refine VIf.dec (fun ht => ?_) (fun ht => ?_)
  rotate_left
  · have ht : ¬ (i : Int) < (n : Int) := ht
    obtain rfl : i = n := by omega
    conv => whnf
    rw [List.take_of_length_le (by omega)] at hrow
    exact ⟨B, m, d, F, rfl, hrow, ho, hF⟩
  have ht : (i : Int) < (n : Int) := ht
  have hil : i < z.length := by omega
  obtain ⟨b, off, rfl, -⟩ := hz.some_ (by omega)
  have hbr := hb.only ho (by simp)
  have hzr := hz.o ho
  have ei : IntKind.i64.wrap ((i : Int) + 1) = ((i + 1 : Nat) : Int) := by rw [wi64]; omega
  conv => whnf
  refine VDraw.abs fun N0 hN => ?_
  refine VDraw.q (by kernel_rfl) (by kernel_rfl) ?_
  conv => whnf
  (refine ⟨_, fun w' hw' => Loads.one (by kernel_rfl) ((hbr.only hw' (by simp)).ntNow ok), ?_⟩; conv => whnf)
  refine ⟨_, _, rfl, i, off + i * 55, rfl, by omega, rfl, ?_⟩
  conv => whnf
  (refine ⟨_, fun w' hw' => Loads.one (by kernel_rfl) ((hzr.o hw').fld ntC_len hil (ntC_from _)), ?_⟩; conv => whnf)
  (refine ⟨_, fun w' hw' => Loads.one (by kernel_rfl) ((hbr.only hw' (by simp)).ntHold ok), ?_⟩; conv => whnf)
  intro w2 ho2
  conv => whnf
  refine hN _ _ ?_
  have hw2 := ho.t0 ho2
  have hrow2 := hrow.only ho2 (by simp)
  by_cases hx : IntKind.i64.wrap (now - z[i].from_) < c.hold
  · have hag : (!aged now z[i].from_ c.hold) = true := by
      unfold aged
      rw [decide_eq_false (show ¬ IntKind.i64.wrap (now - z[i].from_) ≥ c.hold by omega)]
      rfl
    refine vc.T (congrArg Value.bool (decide_eq_true hx)) ?_
    conv => whnf
    refine ⟨_, _, rfl, i, off + i * 55, rfl, by omega, rfl, ?_⟩
    conv => whnf
    refine ⟨_, (hz.o hw2).elem ntC_len hil (by kernel_rfl) (by kernel_rfl), ?_⟩
    conv => whnf
    refine lenIs.of (Nat.succ.inj (Nat.succ.inj (ntC_len z[i]))) ?_
    conv => whnf
    have hxl : (ntC z[i] ++ []).length = 1 * 55 := by rw [List.append_nil, ntC_len]
    refine vFall.append 226 55 104 rfl (by kernel_rfl) rfl (hrow2.alloc _) rfl (Sl.new w2 226 55 (ntC z[i] ++ []) 1 hxl) (by rw [List.append_nil]; exact fun u hu => cell_of_one (one_ntC _ u hu)) (by omega) (by omega) ?_
    intro A5 c5 F5 w5 hr5 ho5 hF5
    have hal := (Only.refl [] w2).alloc (.cells ⟨ntC z[i] ++ []⟩ 226)
    conv => whnf
    refine ⟨(i + 1, A5, m + 1, c5), ⟨rfl, congrArg (Value.int .i64) ei, trivial⟩, ⟨by omega, by omega, F5, ?_, (hw2.t0 hal).trans ho5 (fun x hx => .inr (hF x hx)), fun k hk => ?_⟩, by show n - (i + 1) < n - i; omega⟩
    · refine hr5.cast ?_
      rw [filter_snoc hil, if_pos hag, List.append_nil, List.flatMap_append]
      simp
    · rcases hF5 k hk with h1 | h1
      · exact hF k h1
      · exact Nat.le_trans (hw2.t0 hal).size h1
  · have hag : (!aged now z[i].from_ c.hold) = false := by
      unfold aged
      rw [decide_eq_true (show IntKind.i64.wrap (now - z[i].from_) ≥ c.hold by omega)]
      rfl
    refine vc.N (congrArg Value.bool (decide_eq_false hx)) ?_
    refine vc.S ?_
    conv => whnf
    refine ⟨(i + 1, B, m, d), ⟨rfl, congrArg (Value.int .i64) ei, trivial⟩, ⟨by omega, by omega, F, ?_, hw2, hF⟩, by show n - (i + 1) < n - i; omega⟩
    refine hrow2.cast ?_
    rw [filter_snoc hil, hag]
    simp
end Go.Proofs.YtofomopdaponbaaGreatDoor
