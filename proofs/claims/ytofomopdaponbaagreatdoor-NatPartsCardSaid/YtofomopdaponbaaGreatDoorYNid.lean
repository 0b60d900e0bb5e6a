/-
  Mappings and notes (package nat) as cells; the first of them at which something holds.
-/
import Derived.Test.YtofomopdaponbaaGreatDoorZe
namespace Go.Proofs.YtofomopdaponbaaGreatDoor
open Go.RowKit
set_option linter.unusedVariables false
set_option linter.unusedSimpArgs false

structure Nm where
  addr : Ad
  port : Int
  out : Int
  used : Int
deriving DecidableEq
def i64B (x : Int) : Prop := -9223372036854775808 ≤ x ∧ x ≤ 9223372036854775807
/-- An address of 16 bytes, whatever it holds. -/
def pad16 (l : List UInt8) : List UInt8 := (l ++ List.replicate 16 0).take 16
theorem pad16_len (l : List UInt8) : (pad16 l).length = 16 := by simp [pad16]
theorem pad16_id {l : List UInt8} (h : l.length = 16) : pad16 l = l := by simp [pad16, ← h]
def adP (a : Ad) : List Value := adC (a.1, pad16 a.2)
theorem adP_len (a : Ad) : (adP a).length = 17 := by simp [adP, adC, pad16_len]
theorem adP_id {a : Ad} (h : okAd a) : adP a = adC a := by
  unfold adP
  rw [pad16_id h.2.2]
def nmC (m : Nm) : List Value := adP m.addr ++ [.int .i64 m.port, .int .i64 m.out, .int .i64 m.used]
theorem one_app {a b : List Value} (ha : ∀ u ∈ a, isOne u = true) (hb : ∀ u ∈ b, isOne u = true) : ∀ u ∈ a ++ b, isOne u = true := by
  intro u hu
  rcases List.mem_append.1 hu with h | h
  · exact ha u h
  · exact hb u h
theorem one_cons {x : Value} {b : List Value} (hx : isOne x = true) (hb : ∀ u ∈ b, isOne u = true) : ∀ u ∈ x :: b, isOne u = true := by
  intro u hu
  rcases List.mem_cons.1 hu with rfl | h
  · exact hx
  · exact hb u h
theorem one_nil : ∀ u ∈ ([] : List Value), isOne u = true := by simp
theorem one_nmC (m : Nm) : ∀ u ∈ nmC m, isOne u = true := one_app (one_adC _) (one_cons rfl (one_cons rfl (one_cons rfl one_nil)))
theorem nmC_len (m : Nm) : (nmC m).length = 20 := by simp [nmC, adP_len]
structure Ky where
  v : Int
  src : Ad
  dst : Ad
  proto : Int
  id : Int
deriving DecidableEq
def kyC (k : Ky) : List Value := .int .i64 k.v :: (adP k.src ++ (adP k.dst ++ [.int .i64 k.proto, .int .u32 k.id]))
theorem kyC_len (k : Ky) : (kyC k).length = 37 := by simp [kyC, adP_len]
structure Nt where
  key : Ky
  addr : Ad
  from_ : Int
deriving DecidableEq
def ntC (x : Nt) : List Value := kyC x.key ++ (adP x.addr ++ [.int .i64 x.from_])
theorem one_ntC (x : Nt) : ∀ u ∈ ntC x, isOne u = true := one_app (one_cons rfl (one_app (one_adC _) (one_app (one_adC _) (one_cons rfl (one_cons rfl one_nil))))) (one_app (one_adC _) (one_cons rfl one_nil))
theorem ntC_len (x : Nt) : (ntC x).length = 55 := by simp [ntC, kyC_len, adP_len]
set_option maxRecDepth 100000 in
theorem indexNm_does {w : World} {G : List Nat} {A : Option Addr} {n c : Nat} {z : List Nm} {g : FuncId} {first cap : Array Value} {p : Nm → Bool} (h : Sl w 20 G A n (z.flatMap nmC)) (hn : n ≤ 9223372036854775807)
    (hp : ∀ x ∈ z, ∀ w', Only [] w w' → Does Tryz.prog g (first.toList ++ [.agg ⟨nmC x⟩] ++ cap.toList) w' (fun v w2 => v = .bool (p x) ∧ Only [] w' w2)) :
    Does Tryz.prog 132 [.slice A n c, .func (.func g) first cap] w (fun v w' => v = .int .i64 (idxI p z) ∧ Only [] w w') := by
  have hl := h.num nmC_len (by decide)
  refine Does.enter (fn := Tryz.f132) (by kernel_rfl) rfl (by kernel_rfl) (by kernel_rfl) ?_
  conv => whnf
  refine VLoop.inv (α := Nat) [(4, 6), (8, 19)] (fun i => [(8, .int .i64 i)]) (fun i w' => Only [] w w' ∧ i ≤ n ∧ ∀ j (hj : j < z.length), j < i → p z[j] = false) (fun i => n - i) 0 (by kernel_rfl) ⟨rfl, trivial⟩ ⟨Only.refl _ _, Nat.zero_le _, fun j hj h => absurd h (Nat.not_lt_zero _)⟩ ?_
  rintro i wr j ⟨ho, hi, hall⟩
  conv => whnf
  refine VIf.dec (fun ht => ?_) (fun ht => ?_)
  · have hi2 : i < z.length := by omega
    have hb := h.o ho
    obtain ⟨b, off, rfl, -⟩ := hb.some_ (by omega)
    conv => whnf
    refine ⟨_, _, rfl, i, off + i * 20, rfl, by omega, rfl, ?_⟩
    conv => whnf
    refine ⟨_, hb.elem nmC_len hi2 (by kernel_rfl) (by kernel_rfl), ?_⟩
    conv => whnf
    refine (hp z[i] (List.getElem_mem hi2) _ ho).mono ?_
    rintro v w2 ⟨rfl, ho2⟩
    conv => whnf
    refine VIf.of (b := p z[i]) (fun hB => ?_) (fun hB => ?_)
    · conv => whnf
      refine ⟨congrArg (Value.int IntKind.i64) ?_, ho.t0 ho2⟩
      rw [idx_here hi2 (fun j hj => hall j (Nat.lt_trans hj hi2) hj) hB]
    · conv => whnf
      refine ⟨i + 1, ⟨congrArg (Value.int IntKind.i64) (by rw [wi64]; omega), trivial⟩, ⟨ho.t0 ho2, by omega, fun j hj hji => ?_⟩, by omega⟩
      rcases Nat.lt_or_ge j i with hlt | hge
      · exact hall j hj hlt
      · obtain rfl : j = i := by omega
        exact hB
  · conv => whnf
    refine ⟨congrArg (Value.int IntKind.i64) ?_, ho⟩
    rw [idx_none]
    intro x hx
    obtain ⟨j, hj, rfl⟩ := List.getElem_of_mem hx
    exact hall j hj (by omega)
set_option maxRecDepth 100000 in
theorem indexNt_does {w : World} {G : List Nat} {A : Option Addr} {n c : Nat} {z : List Nt} {g : FuncId} {first cap : Array Value} {p : Nt → Bool} (h : Sl w 55 G A n (z.flatMap ntC)) (hn : n ≤ 9223372036854775807)
    (hp : ∀ x ∈ z, ∀ w', Only [] w w' → Does Tryz.prog g (first.toList ++ [.agg ⟨ntC x⟩] ++ cap.toList) w' (fun v w2 => v = .bool (p x) ∧ Only [] w' w2)) :
    Does Tryz.prog 127 [.slice A n c, .func (.func g) first cap] w (fun v w' => v = .int .i64 (idxI p z) ∧ Only [] w w') := by
  have hl := h.num ntC_len (by decide)
  refine Does.enter (fn := Tryz.f127) (by kernel_rfl) rfl (by kernel_rfl) (by kernel_rfl) ?_
  conv => whnf
  refine VLoop.inv (α := Nat) [(4, 6), (8, 19)] (fun i => [(8, .int .i64 i)]) (fun i w' => Only [] w w' ∧ i ≤ n ∧ ∀ j (hj : j < z.length), j < i → p z[j] = false) (fun i => n - i) 0 (by kernel_rfl) ⟨rfl, trivial⟩ ⟨Only.refl _ _, Nat.zero_le _, fun j hj h => absurd h (Nat.not_lt_zero _)⟩ ?_
  rintro i wr j ⟨ho, hi, hall⟩
  conv => whnf
  refine VIf.dec (fun ht => ?_) (fun ht => ?_)
  · have hi2 : i < z.length := by omega
    have hb := h.o ho
    obtain ⟨b, off, rfl, -⟩ := hb.some_ (by omega)
    conv => whnf
    refine ⟨_, _, rfl, i, off + i * 55, rfl, by omega, rfl, ?_⟩
    conv => whnf
    refine ⟨_, hb.elem ntC_len hi2 (by kernel_rfl) (by kernel_rfl), ?_⟩
    conv => whnf
    refine (hp z[i] (List.getElem_mem hi2) _ ho).mono ?_
    rintro v w2 ⟨rfl, ho2⟩
    conv => whnf
    refine VIf.of (b := p z[i]) (fun hB => ?_) (fun hB => ?_)
    · conv => whnf
      refine ⟨congrArg (Value.int IntKind.i64) ?_, ho.t0 ho2⟩
      rw [idx_here hi2 (fun j hj => hall j (Nat.lt_trans hj hi2) hj) hB]
    · conv => whnf
      refine ⟨i + 1, ⟨congrArg (Value.int IntKind.i64) (by rw [wi64]; omega), trivial⟩, ⟨ho.t0 ho2, by omega, fun j hj hji => ?_⟩, by omega⟩
      rcases Nat.lt_or_ge j i with hlt | hge
      · exact hall j hj hlt
      · obtain rfl : j = i := by omega
        exact hB
  · conv => whnf
    refine ⟨congrArg (Value.int IntKind.i64) ?_, ho⟩
    rw [idx_none]
    intro x hx
    obtain ⟨j, hj, rfl⟩ := List.getElem_of_mem hx
    exact hall j hj (by omega)
theorem inc_e {x : Nat} (h : x < 9223372036854775807) : IntKind.i64.wrap ((x : Int) + 1) = ((x + 1 : Nat) : Int) := by
  rw [wi64]
  omega
theorem splice_flat {α : Type} {enc : α → List Value} {size : Nat} (hlen : ∀ x, (enc x).length = size) (x : α) : ∀ (z : List α) (i : Nat), i < z.length → splice (z.flatMap enc) (i * size) (enc x) = (z.set i x).flatMap enc := by
  intro z
  induction z with
  | nil => intro i hi; simp at hi
  | cons y z ih =>
    intro i hi
    cases i with
    | zero =>
      simp only [splice, Nat.zero_mul, List.take_zero, List.nil_append, Nat.zero_add, List.flatMap_cons, List.set_cons_zero, hlen]
      rw [List.drop_append_of_le_length (by rw [hlen]; exact Nat.le_refl _), List.drop_of_length_le (by rw [hlen]; exact Nat.le_refl _), List.nil_append]
    | succ i =>
      have := ih i (by simpa using hi)
      simp only [splice, List.flatMap_cons, List.set_cons_succ] at this ⊢
      have e1 : (i + 1) * size = (enc y).length + i * size := by rw [hlen, Nat.succ_mul, Nat.add_comm]
      rw [e1, Nat.add_assoc, List.take_length_add_append, List.drop_length_add_append, List.append_assoc, this]
theorem take_flat {α : Type} {enc : α → List Value} {size : Nat} (hlen : ∀ x, (enc x).length = size) : ∀ (z : List α) (i : Nat), (z.flatMap enc).take (i * size) = (z.take i).flatMap enc := by
  intro z
  induction z with
  | nil => intro i; simp
  | cons y z ih =>
    intro i
    cases i with
    | zero => simp
    | succ i =>
      have e1 : (i + 1) * size = (enc y).length + i * size := by rw [hlen, Nat.succ_mul, Nat.add_comm]
      rw [List.flatMap_cons, e1, List.take_length_add_append, ih, List.take_succ_cons, List.flatMap_cons]
/-- A row's block, its cells. -/
theorem Row.own {w : World} {e : TypeId} {size n c g : Nat} {xs : List Value} (h : Row w e size [g] (some ⟨g, 0, none⟩) n c xs) : ∃ cur : List Value, Blk w g e ⟨cur⟩ ∧ cur.length = c * size ∧ cur.take (n * size) = xs := by
  rcases h with ⟨hF, _⟩ | ⟨g', hF, hA, h1, h2⟩
  · cases hF
  · rcases h2 with ⟨h, _⟩ | ⟨g2, cap, cur, hv, hb, hh, h3, h4, hs, ht⟩
    · cases h
    · injection hv with k1 _ k3
      injection k1 with k1
      injection k1 with k1
      subst k3
      have hg : g = g2 := by first | exact k1 | exact k1.symm | (simp at hA; omega)
      subst hg
      exact ⟨cur.toList, hh, by simpa using hs, ht⟩
theorem Row.ofOwn {w : World} {e : TypeId} {size n c g : Nat} {xs cur : List Value} (hb : Blk w g e ⟨cur⟩) (hc : cur.length = c * size) (ht : cur.take (n * size) = xs) (hx : xs.length = n * size) (hn : n ≤ c) (hm : c ≤ maxLen) : Row w e size [g] (some ⟨g, 0, none⟩) n c xs :=
  .inr ⟨g, rfl, rfl, hx, .inr ⟨g, c, ⟨cur⟩, rfl, Nat.zero_le _, hb, hn, hm, by simpa using hc, ht⟩⟩
theorem Row.storeAt {α : Type} {enc : α → List Value} {P : Program} {t e : TypeId} {w : World} {size n c g i : Nat} {z : List α} {x : α} (h : Row w e size [g] (some ⟨g, 0, none⟩) n c (z.flatMap enc)) (hlen : ∀ x, (enc x).length = size) (hs : sizeOfT P t = some size) (h1 : ∀ u ∈ enc x, isOne u = true) (hz : z.length = n) (hi : i < n) :
    ∃ w', Stores P t ⟨g, i * size, none⟩ (.agg ⟨enc x⟩) w w' ∧ Row w' e size [g] (some ⟨g, 0, none⟩) n c ((z.set i x).flatMap enc) ∧ Only [g] w w' ∧ w'.heap.size = w.heap.size := by
  obtain ⟨cur, hb, hc, ht⟩ := h.own
  have hle := h.le
  have hm1 : (i + 1) * size ≤ n * size := Nat.mul_le_mul_right _ hi
  have hm2 : n * size ≤ c * size := Nat.mul_le_mul_right _ hle.1
  rw [Nat.succ_mul] at hm1
  obtain ⟨w', h2, h3, h4, h5⟩ := Stores.blk (P := P) (t := t) (o := i * size) (cs := enc x) (by rw [hlen]; exact hs) hb (by rw [hlen]; omega) h1
  refine ⟨w', h2, Row.ofOwn h3 (by rw [splice_len (by rw [hlen]; omega), hc]) ?_ (by rw [flat_len hlen, List.length_set, hz]) hle.1 hle.2, h4, h5⟩
  rw [← splice_flat hlen x z i (by omega), ← ht]
  unfold splice
  rw [hlen, List.take_append, List.take_append]
  have e1 : (cur.take (i * size)).length = i * size := by rw [List.length_take]; omega
  rw [e1, hlen, List.take_take, List.take_take, Nat.min_eq_right (by omega), Nat.min_eq_left (by omega), List.take_of_length_le (l := enc x) (by rw [hlen]; omega), List.drop_take]
  congr 3
  omega
theorem keep_take {α : Type} {p : α → Bool} {z : List α} {j : Nat} (hj : j < z.length) : (z.take (j + 1)).filter (fun x => !p x) = (z.take j).filter (fun x => !p x) ++ (if p z[j] = true then [] else [z[j]]) := by
  rw [take_snoc' hj, List.filter_append]
  congr 1
  by_cases h : p z[j] = true <;> simp [h]
set_option maxHeartbeats 1000000 in
set_option maxRecDepth 100000 in
theorem deleteNm_does {w : World} {F : List Nat} {A : Option Addr} {n c : Nat} {z : List Nm} {g : FuncId} {first cap : Array Value} {p : Nm → Bool} (h : Row w 48 20 F A n c (z.flatMap nmC))
    (hp : ∀ x ∈ z, ∀ w', Only F w w' → Does Tryz.prog g (first.toList ++ [.agg ⟨nmC x⟩] ++ cap.toList) w' (fun v w2 => v = .bool (p x) ∧ Only [] w' w2)) :
    Does Tryz.prog 191 [.slice A n c, .func (.func g) first cap] w (fun v w' => ∃ k, v = .slice A k c ∧ k ≤ n ∧ Row w' 48 20 F A k c ((z.filter (fun x => !p x)).flatMap nmC) ∧ Only F w w') := by
  have hl := h.sl.num nmC_len (by decide)
  have hle := h.le
  have hmx : c ≤ 9223372036854775807 := hle.2
  refine Does.enter (fn := Tryz.f191) (by kernel_rfl) rfl (by kernel_rfl) (by kernel_rfl) ?_
  conv => whnf
  refine (indexNm_does h.sl (by omega) (fun x hx w' ho => hp x hx w' ho.up)).mono ?_
  rintro v w1 ⟨rfl, ho1⟩
  conv => whnf
  refine VIf.eq (fun e => ?_) (fun e => ?_)
  · conv => whnf
    have hall : ∀ x ∈ z, p x = false := by
      intro x hx
      unfold idxI at e
      split at e
      · rename_i i hi
        omega
      · rename_i hi
        exact List.findIdx?_eq_none_iff.1 hi x hx
    refine ⟨n, rfl, Nat.le_refl _, ?_, ho1.up⟩
    rw [List.filter_eq_self.2 (fun x hx => by rw [hall x hx]; rfl)]
    exact h.only ho1 (by simp)
  · obtain ⟨i0, hi0, hp1, hbef, hidx⟩ : ∃ i0, ∃ hi : i0 < z.length, p z[i0] = true ∧ (∀ j (hj : j < i0), p (z[j]'(Nat.lt_trans hj hi)) = false) ∧ idxI p z = (i0 : Int) := by
      unfold idxI at e ⊢
      split at e
      · rename_i i hi
        obtain ⟨h1, h2, h3⟩ := List.findIdx?_eq_some_iff_getElem.1 hi
        exact ⟨i, h1, h2, fun j hj => by simpa using h3 j hj, rfl⟩
      · exact absurd rfl e
    obtain ⟨q, cur, rfl, rfl, -⟩ := h.blk (by omega)
    have hrow1 := h.only ho1 (by simp)
    have hsize : sizeOfT Tryz.prog 48 = some 20 := by kernel_rfl
    rw [hidx]
    conv => whnf
    refine VLoop.inv (α := Nat × Nat × List Nm) [(5, 8), (16, 36)] (fun s => [(5, .int .i64 (s.1 : Nat)), (6, .int .i64 (s.2.1 : Nat))]) (fun s w' => Only [q] w w' ∧ s.1 < s.2.1 ∧ s.2.1 ≤ n ∧ s.2.2.length = n ∧ s.2.2.take s.1 = (z.take s.2.1).filter (fun x => !p x) ∧ s.2.2.drop s.2.1 = z.drop s.2.1 ∧ Row w' 48 20 [q] (some ⟨q, 0, none⟩) n c (s.2.2.flatMap nmC)) (fun s => n - s.2.1) (i0, i0 + 1, z) (by kernel_rfl)
      ⟨rfl, congrArg (Value.int IntKind.i64) (by rw [wi64]; show _ = ((i0 + 1 : Nat) : Int); omega), trivial⟩ ⟨ho1.up, Nat.lt_succ_self _, by show i0 + 1 ≤ n; omega, hl, ?_, rfl, hrow1⟩ ?_
    · rw [keep_take hi0, if_pos hp1, List.append_nil]
      refine (List.filter_eq_self.2 ?_).symm
      intro x hx
      obtain ⟨j, hj, rfl⟩ := List.getElem_of_mem hx
      rw [List.length_take] at hj
      rw [List.getElem_take, hbef j (by omega)]
      rfl
    rintro ⟨i, j, z'⟩ wr jf ⟨ho, hij, hjn, hlz, htk, hdr, hrow⟩
    have hij : i < j := hij
    have hjn : j ≤ n := hjn
    have hlz : z'.length = n := hlz
    have htk : z'.take i = (z.take j).filter (fun x => !p x) := htk
    have hdr : z'.drop j = z.drop j := hdr
    conv => whnf
    refine VIf.dec (fun ht => ?_) (fun ht => ?_)
    · have ht : (j : Int) < (n : Int) := ht
      have hj1 : j < z'.length := by omega
      have hj2 : j < z.length := by omega
      rw [List.drop_eq_getElem_cons hj1, List.drop_eq_getElem_cons hj2] at hdr
      injection hdr with hel hdr
      conv => whnf
      refine ⟨_, _, rfl, j, 0 + j * 20, rfl, by omega, rfl, ?_⟩
      conv => whnf
      refine ⟨_, hrow.sl.elem nmC_len hj1 (by kernel_rfl) (by kernel_rfl), ?_⟩
      conv => whnf
      rw [hel]
      refine vStore.fresh (cs := nmC z[j]) (by rw [nmC_len]; kernel_rfl) (by rw [nmC_len]; rfl) (one_nmC _) (fun w2 b2 ho2 hz2 => ?_)
      conv => whnf
      refine ⟨_, Loads.all b2 (by kernel_rfl) (by rw [nmC_len]; kernel_rfl), ?_⟩
      conv => whnf
      refine (hp z[j] (List.getElem_mem hj2) _ (ho.f0 ho2)).mono ?_
      rintro v w3 ⟨rfl, ho3⟩
      have how := (ho.f0 ho2).f0 ho3
      have hrow3 := (hrow.only ho2 (by simp)).only ho3 (by simp)
      conv => whnf
      refine VIf.not (VIf.of (b := p z[j]) (fun hB => ?_) (fun hB => ?_))
      · conv => whnf
        refine ⟨(i, j + 1, z'), ⟨rfl, congrArg (Value.int IntKind.i64) (inc_e (x := j) (by omega)), trivial⟩, ⟨how, Nat.lt_succ_of_lt hij, by show j + 1 ≤ n; omega, hlz, ?_, hdr, hrow3⟩, by show n - (j + 1) < n - j; omega⟩
        show z'.take i = _
        rw [keep_take hj2, if_pos hB, List.append_nil, htk]
      · conv => whnf
        refine ⟨_, Loads.all (b2.only ho3 (by simp)) (by kernel_rfl) (by rw [nmC_len]; kernel_rfl), ?_⟩
        conv => whnf
        refine ⟨_, _, rfl, i, i * 20, rfl, (show i < n by omega), (Nat.zero_add _).symm, ?_⟩
        conv => whnf
        obtain ⟨w4, hst, hrow4, ho4, hs4⟩ := hrow3.storeAt (P := Tryz.prog) (t := 48) (x := z[j]) nmC_len hsize (one_nmC _) hlz (show i < n by omega)
        refine ⟨w4, hst, ?_⟩
        conv => whnf
        refine ⟨(i + 1, j + 1, z'.set i z[j]), ⟨congrArg (Value.int IntKind.i64) (inc_e (x := i) (by omega)), congrArg (Value.int IntKind.i64) (inc_e (x := j) (by omega)), trivial⟩, ⟨how.ff ho4, Nat.succ_lt_succ hij, by show j + 1 ≤ n; omega, by show (z'.set i z[j]).length = n; rw [List.length_set]; exact hlz, ?_, ?_, hrow4⟩, by show n - (j + 1) < n - j; omega⟩
        · show (z'.set i z[j]).take (i + 1) = _
          rw [keep_take hj2, if_neg (by rw [hB]; decide), ← htk, take_snoc' (by rw [List.length_set]; omega), List.take_set_of_le (Nat.le_refl _)]
          simp
        · show (z'.set i z[j]).drop (j + 1) = _
          rw [List.drop_set_of_lt (by omega)]
          exact hdr
    · have ht : ¬ (j : Int) < (n : Int) := ht
      have hjn' : j = n := by omega
      have hicmp : c ≠ i := by omega
      have hfil : z'.take i = z.filter (fun x => !p x) := by rw [htk, hjn', List.take_of_length_le (by omega)]
      conv => whnf
      refine ⟨i, n, c, rfl, rfl, rfl, by omega, by omega, by omega, some ⟨q, i * 20, none⟩, n - i, c - i, ?_, rfl, rfl, ?_⟩
      · rw [if_neg hicmp]
        show some _ = some (Addr.add ⟨q, 0, none⟩ (i * 20))
        rw [add_plain, Nat.zero_add]
      conv => whnf
      obtain ⟨cur3, hb3, hc3, ht3⟩ := hrow.own
      refine vFall.clear (e := 48) (size := 20) (z := .agg ⟨nmC ⟨(0, []), 0, 0, 0⟩⟩) rfl (by kernel_rfl) (by kernel_rfl) rfl (one_nmC _) rfl hb3 (by rw [hc3]; omega) (fun w5 new hb5 hn5 htk5 ho5 _ => ?_)
      conv => whnf
      refine ⟨0, i, c, rfl, rfl, rfl, by omega, by omega, by omega, some ⟨q, 0, none⟩, i, c, ?_, rfl, rfl, ?_⟩
      · split
        · rfl
        · show some _ = some (Addr.add ⟨q, 0, none⟩ (0 * 20))
          rw [add_plain]
      conv => whnf
      refine ⟨i, rfl, by omega, Row.ofOwn hb5 (by rw [hn5, hc3]) ?_ ?_ (by omega) hle.2, ho.ff ho5⟩
      · rw [htk5, ← hfil, ← take_flat nmC_len, ← ht3, List.take_take, Nat.min_eq_left (Nat.mul_le_mul_right _ (by omega))]
      · rw [flat_len nmC_len, ← hfil, List.length_take, hlz, Nat.min_eq_left (by omega)]
set_option maxHeartbeats 1000000 in
set_option maxRecDepth 100000 in
theorem deleteNt_does {w : World} {F : List Nat} {A : Option Addr} {n c : Nat} {z : List Nt} {g : FuncId} {first cap : Array Value} {p : Nt → Bool} (h : Row w 185 55 F A n c (z.flatMap ntC))
    (hp : ∀ x ∈ z, ∀ w', Only F w w' → Does Tryz.prog g (first.toList ++ [.agg ⟨ntC x⟩] ++ cap.toList) w' (fun v w2 => v = .bool (p x) ∧ Only [] w' w2)) :
    Does Tryz.prog 137 [.slice A n c, .func (.func g) first cap] w (fun v w' => ∃ k, v = .slice A k c ∧ k ≤ n ∧ Row w' 185 55 F A k c ((z.filter (fun x => !p x)).flatMap ntC) ∧ Only F w w') := by
  have hl := h.sl.num ntC_len (by decide)
  have hle := h.le
  have hmx : c ≤ 9223372036854775807 := hle.2
  refine Does.enter (fn := Tryz.f137) (by kernel_rfl) rfl (by kernel_rfl) (by kernel_rfl) ?_
  conv => whnf
  refine (indexNt_does h.sl (by omega) (fun x hx w' ho => hp x hx w' ho.up)).mono ?_
  rintro v w1 ⟨rfl, ho1⟩
  conv => whnf
  refine VIf.eq (fun e => ?_) (fun e => ?_)
  · conv => whnf
    have hall : ∀ x ∈ z, p x = false := by
      intro x hx
      unfold idxI at e
      split at e
      · rename_i i hi
        omega
      · rename_i hi
        exact List.findIdx?_eq_none_iff.1 hi x hx
    refine ⟨n, rfl, Nat.le_refl _, ?_, ho1.up⟩
    rw [List.filter_eq_self.2 (fun x hx => by rw [hall x hx]; rfl)]
    exact h.only ho1 (by simp)
  · obtain ⟨i0, hi0, hp1, hbef, hidx⟩ : ∃ i0, ∃ hi : i0 < z.length, p z[i0] = true ∧ (∀ j (hj : j < i0), p (z[j]'(Nat.lt_trans hj hi)) = false) ∧ idxI p z = (i0 : Int) := by
      unfold idxI at e ⊢
      split at e
      · rename_i i hi
        obtain ⟨h1, h2, h3⟩ := List.findIdx?_eq_some_iff_getElem.1 hi
        exact ⟨i, h1, h2, fun j hj => by simpa using h3 j hj, rfl⟩
      · exact absurd rfl e
    obtain ⟨q, cur, rfl, rfl, -⟩ := h.blk (by omega)
    have hrow1 := h.only ho1 (by simp)
    have hsize : sizeOfT Tryz.prog 185 = some 55 := by kernel_rfl
    rw [hidx]
    conv => whnf
    refine VLoop.inv (α := Nat × Nat × List Nt) [(5, 8), (16, 36)] (fun s => [(5, .int .i64 (s.1 : Nat)), (6, .int .i64 (s.2.1 : Nat))]) (fun s w' => Only [q] w w' ∧ s.1 < s.2.1 ∧ s.2.1 ≤ n ∧ s.2.2.length = n ∧ s.2.2.take s.1 = (z.take s.2.1).filter (fun x => !p x) ∧ s.2.2.drop s.2.1 = z.drop s.2.1 ∧ Row w' 185 55 [q] (some ⟨q, 0, none⟩) n c (s.2.2.flatMap ntC)) (fun s => n - s.2.1) (i0, i0 + 1, z) (by kernel_rfl)
      ⟨rfl, congrArg (Value.int IntKind.i64) (by rw [wi64]; show _ = ((i0 + 1 : Nat) : Int); omega), trivial⟩ ⟨ho1.up, Nat.lt_succ_self _, by show i0 + 1 ≤ n; omega, hl, ?_, rfl, hrow1⟩ ?_
    · rw [keep_take hi0, if_pos hp1, List.append_nil]
      refine (List.filter_eq_self.2 ?_).symm
      intro x hx
      obtain ⟨j, hj, rfl⟩ := List.getElem_of_mem hx
      rw [List.length_take] at hj
      rw [List.getElem_take, hbef j (by omega)]
      rfl
    rintro ⟨i, j, z'⟩ wr jf ⟨ho, hij, hjn, hlz, htk, hdr, hrow⟩
    have hij : i < j := hij
    have hjn : j ≤ n := hjn
    have hlz : z'.length = n := hlz
    have htk : z'.take i = (z.take j).filter (fun x => !p x) := htk
    have hdr : z'.drop j = z.drop j := hdr
    conv => whnf
    refine VIf.dec (fun ht => ?_) (fun ht => ?_)
    · have ht : (j : Int) < (n : Int) := ht
      have hj1 : j < z'.length := by omega
      have hj2 : j < z.length := by omega
      rw [List.drop_eq_getElem_cons hj1, List.drop_eq_getElem_cons hj2] at hdr
      injection hdr with hel hdr
      conv => whnf
      refine ⟨_, _, rfl, j, 0 + j * 55, rfl, by omega, rfl, ?_⟩
      conv => whnf
      refine ⟨_, hrow.sl.elem ntC_len hj1 (by kernel_rfl) (by kernel_rfl), ?_⟩
      conv => whnf
      rw [hel]
      refine vStore.fresh (cs := ntC z[j]) (by rw [ntC_len]; kernel_rfl) (by rw [ntC_len]; rfl) (one_ntC _) (fun w2 b2 ho2 hz2 => ?_)
      conv => whnf
      refine ⟨_, Loads.all b2 (by kernel_rfl) (by rw [ntC_len]; kernel_rfl), ?_⟩
      conv => whnf
      refine (hp z[j] (List.getElem_mem hj2) _ (ho.f0 ho2)).mono ?_
      rintro v w3 ⟨rfl, ho3⟩
      have how := (ho.f0 ho2).f0 ho3
      have hrow3 := (hrow.only ho2 (by simp)).only ho3 (by simp)
      conv => whnf
      refine VIf.not (VIf.of (b := p z[j]) (fun hB => ?_) (fun hB => ?_))
      · conv => whnf
        refine ⟨(i, j + 1, z'), ⟨rfl, congrArg (Value.int IntKind.i64) (inc_e (x := j) (by omega)), trivial⟩, ⟨how, Nat.lt_succ_of_lt hij, by show j + 1 ≤ n; omega, hlz, ?_, hdr, hrow3⟩, by show n - (j + 1) < n - j; omega⟩
        show z'.take i = _
        rw [keep_take hj2, if_pos hB, List.append_nil, htk]
      · conv => whnf
        refine ⟨_, Loads.all (b2.only ho3 (by simp)) (by kernel_rfl) (by rw [ntC_len]; kernel_rfl), ?_⟩
        conv => whnf
        refine ⟨_, _, rfl, i, i * 55, rfl, (show i < n by omega), (Nat.zero_add _).symm, ?_⟩
        conv => whnf
        obtain ⟨w4, hst, hrow4, ho4, hs4⟩ := hrow3.storeAt (P := Tryz.prog) (t := 185) (x := z[j]) ntC_len hsize (one_ntC _) hlz (show i < n by omega)
        refine ⟨w4, hst, ?_⟩
        conv => whnf
        refine ⟨(i + 1, j + 1, z'.set i z[j]), ⟨congrArg (Value.int IntKind.i64) (inc_e (x := i) (by omega)), congrArg (Value.int IntKind.i64) (inc_e (x := j) (by omega)), trivial⟩, ⟨how.ff ho4, Nat.succ_lt_succ hij, by show j + 1 ≤ n; omega, by show (z'.set i z[j]).length = n; rw [List.length_set]; exact hlz, ?_, ?_, hrow4⟩, by show n - (j + 1) < n - j; omega⟩
        · show (z'.set i z[j]).take (i + 1) = _
          rw [keep_take hj2, if_neg (by rw [hB]; decide), ← htk, take_snoc' (by rw [List.length_set]; omega), List.take_set_of_le (Nat.le_refl _)]
          simp
        · show (z'.set i z[j]).drop (j + 1) = _
          rw [List.drop_set_of_lt (by omega)]
          exact hdr
    · have ht : ¬ (j : Int) < (n : Int) := ht
      have hjn' : j = n := by omega
      have hicmp : c ≠ i := by omega
      have hfil : z'.take i = z.filter (fun x => !p x) := by rw [htk, hjn', List.take_of_length_le (by omega)]
      conv => whnf
      refine ⟨i, n, c, rfl, rfl, rfl, by omega, by omega, by omega, some ⟨q, i * 55, none⟩, n - i, c - i, ?_, rfl, rfl, ?_⟩
      · rw [if_neg hicmp]
        show some _ = some (Addr.add ⟨q, 0, none⟩ (i * 55))
        rw [add_plain, Nat.zero_add]
      conv => whnf
      obtain ⟨cur3, hb3, hc3, ht3⟩ := hrow.own
      refine vFall.clear (e := 185) (size := 55) (z := .agg ⟨ntC ⟨⟨0, (0, []), (0, []), 0, 0⟩, (0, []), 0⟩⟩) rfl (by kernel_rfl) (by kernel_rfl) rfl (one_ntC _) rfl hb3 (by rw [hc3]; omega) (fun w5 new hb5 hn5 htk5 ho5 _ => ?_)
      conv => whnf
      refine ⟨0, i, c, rfl, rfl, rfl, by omega, by omega, by omega, some ⟨q, 0, none⟩, i, c, ?_, rfl, rfl, ?_⟩
      · split
        · rfl
        · show some _ = some (Addr.add ⟨q, 0, none⟩ (0 * 55))
          rw [add_plain]
      conv => whnf
      refine ⟨i, rfl, by omega, Row.ofOwn hb5 (by rw [hn5, hc3]) ?_ ?_ (by omega) hle.2, ho.ff ho5⟩
      · rw [htk5, ← hfil, ← take_flat ntC_len, ← ht3, List.take_take, Nat.min_eq_left (Nat.mul_le_mul_right _ (by omega))]
      · rw [flat_len ntC_len, ← hfil, List.length_take, hlz, Nat.min_eq_left (by omega)]
end Go.Proofs.YtofomopdaponbaaGreatDoor
