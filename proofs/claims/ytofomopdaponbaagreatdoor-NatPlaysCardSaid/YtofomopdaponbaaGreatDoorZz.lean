/-
  The document's nat (mosaicref30): an address in bytes, where a UDP checksum stands, a word written over; the mappings by their ports.
-/
import Derived.Test.YtofomopdaponbaaGreatDoorZy
import Derived.Test.YtofomopdaponbaaGreatDoorYNck
namespace Go.Proofs.YtofomopdaponbaaGreatDoor
open Go.RowKit
set_option linter.unusedVariables false
set_option linter.unusedSimpArgs false

set_option maxRecDepth 100000 in
theorem raddress30_does {w : World} {G : List Nat} {A : Option Addr} {n c : Nat} {l : List UInt8} (h : Bs w G A n l) (h4 : 4 ≤ n) (hn : n ≤ 140737488355328) :
    Does Tryz.prog 120 [.slice A n c] w (fun v w' => v = .agg ⟨adC (4, l.take 4 ++ z12)⟩ ∧ Only [] w w') := by
  have hl := h.len
  obtain ⟨b, off, rfl, -⟩ := h.some_ (by omega)
  have hA := Only.alloc (Only.refl [] w) (.cells ⟨adC (0, List.replicate 16 0)⟩ 24)
  have b2 := Blk.new w 24 ⟨adC (0, List.replicate 16 0)⟩
  refine Does.enter (fn := Tryz.f120) (by kernel_rfl) rfl (by kernel_rfl) (by kernel_rfl) ?_
  conv => whnf
  refine vStore.fresh (cs := adC (4, List.replicate 16 0)) (by kernel_rfl) rfl (one_adC _) (fun w2 b3 ho2 hz2 => ?_)
  have hz0 := World.size_alloc w (.cells ⟨adC (0, List.replicate 16 0)⟩ 24)
  have hz1 : w.heap.size ≤ (w.alloc (.cells ⟨adC (0, List.replicate 16 0)⟩ 24)).heap.size := by rw [hz0]; omega
  have b3 : Blk w2 (w.alloc (.cells ⟨adC (0, List.replicate 16 0)⟩ 24)).heap.size 24 ⟨adC (4, List.replicate 16 0)⟩ := b3
  have b2 := b2.only ho2 (by simp)
  have how := hA.t0 ho2
  conv => whnf
  refine VLoop.inv (α := Nat) [(4, 5), (6, 17)] (fun i => [(4, .int .i64 i)]) (fun i w' => i ≤ 4 ∧ Blk w' (w.alloc (.cells ⟨adC (0, List.replicate 16 0)⟩ 24)).heap.size 24 ⟨adC (4, l.take i ++ List.replicate (16 - i) 0)⟩ ∧ Blk w' w.heap.size 24 ⟨adC (0, List.replicate 16 0)⟩ ∧ Only [] w w') (fun i => 4 - i) 0 (by kernel_rfl) ⟨rfl, trivial⟩ ⟨by decide, b3, b2, how⟩ ?_
  rintro i wr j ⟨hi, b3, b2, how⟩
  conv => whnf
  refine VIf.dec (fun ht => ?_) (fun ht => ?_)
  · have ht : (i : Int) < 4 := ht
    have hil : i < l.length := by omega
    have hb := h.o how
    conv => whnf
    refine ⟨_, _, rfl, i, off + i, rfl, by omega, p1 _ _, ?_⟩
    conv => whnf
    (refine ⟨_, Loads.one (by kernel_rfl) (hb.ld (List.getElem?_eq_getElem hil)), ?_⟩; conv => whnf)
    refine ⟨i, 1 + i, rfl, by omega, p1 _ _, ?_⟩
    conv => whnf
    refine vStore.one b3 (by kernel_rfl) rfl (i := 1 + i) (u := u8 ((l.take i ++ List.replicate (16 - i) 0)[i]'(by simp; omega))) (adC_at (by simp; omega)) (fun b3 hoS => ?_)
    have b3 : Blk _ (w.alloc (.cells ⟨adC (0, List.replicate 16 0)⟩ 24)).heap.size 24 ⟨_⟩ := b3
    conv => whnf
    refine ⟨i + 1, ⟨congrArg (Value.int IntKind.i64) (by rw [wi64]; omega), trivial⟩, ⟨by omega, ?_, b2.only hoS (by simp), how.nw hoS hz1⟩, by omega⟩
    exact (congrArg (fun x : List Value => Blk _ (w.alloc (.cells ⟨adC (0, List.replicate 16 0)⟩ 24)).heap.size 24 ⟨x⟩) (fill_ad hil (by omega))) ▸ b3
  · have ht : ¬ (i : Int) < 4 := ht
    obtain rfl : i = 4 := by omega
    conv => whnf
    refine ⟨_, Loads.all b3 (by kernel_rfl) (by rw [adC_len (fill_ok (by omega) (by decide))]; kernel_rfl), ?_⟩
    conv => whnf
    refine vStore.all (cs := adC (4, l.take 4 ++ List.replicate (16 - 4) 0)) b2 (by rw [adC_len (fill_ok (by omega) (by decide))]; kernel_rfl) (by rw [adC_len (fill_ok (by omega) (by decide))]; rfl) (one_adC _) (fun wz bz hoZ _ => ?_)
    conv => whnf
    refine ⟨_, Loads.all bz (by kernel_rfl) (by rw [adC_len (fill_ok (by omega) (by decide))]; kernel_rfl), ?_⟩
    conv => whnf
    exact ⟨rfl, how.nw hoZ (Nat.le_refl _)⟩
/-- Where the UDP checksum stands of a packet whose head ends there; -1: nowhere, or it is 0. -/
def sumAt (l : List UInt8) (k : Nat) : Int := if k + 8 > l.length ∨ wordL l (k + 6) = 0 then -1 else (k + 6 : Nat)
set_option maxRecDepth 100000 in
theorem rudpSum_does {w : World} {G : List Nat} {A : Option Addr} {n c k : Nat} {l : List UInt8} (h : Bs w G A n l) (hn : n ≤ 140737488355328) (hk : k ≤ 140737488355328) :
    Does Tryz.prog 185 [.slice A n c, .int .i64 k] w (fun v w' => v = .int .i64 (sumAt l k) ∧ Only [] w w') := by
  have hl := h.len
  have e8 : IntKind.i64.wrap ((k : Int) + 8) = ((k + 8 : Nat) : Int) := by rw [wi64]; omega
  have e6 : IntKind.i64.wrap ((k : Int) + 6) = ((k + 6 : Nat) : Int) := by rw [wi64]; omega
  refine Does.enter (fn := Tryz.f185) (by kernel_rfl) rfl (by kernel_rfl) (by kernel_rfl) ?_
  conv => whnf
  rw [e8]
  refine VIf.dec (fun h1 => ?_) (fun h1 => ?_)
  · have h1 : ((k + 8 : Nat) : Int) > (n : Int) := h1
    conv => whnf
    exact ⟨congrArg (Value.int .i64) (by unfold sumAt; rw [if_pos (.inl (by omega))]), Only.refl _ _⟩
  have h1 : ¬ ((k + 8 : Nat) : Int) > (n : Int) := h1
  conv => whnf
  rw [e6]
  (refine (rget30_does (k := k + 6) h (by omega) hn).mono ?_; rintro v w1 ⟨rfl, ho1⟩)
  conv => whnf
  refine VIf.eq (fun h2 => ?_) (fun h2 => ?_)
  · conv => whnf
    exact ⟨congrArg (Value.int .i64) (by unfold sumAt; rw [if_pos (.inr h2)]), ho1⟩
  · conv => whnf
    refine ⟨congrArg (Value.int .i64) ?_, ho1⟩
    unfold sumAt
    rw [if_neg (by intro hc; rcases hc with hc | hc; omega; exact h2 hc)]
    exact e6
theorem one_ints (z : List Int) : ∀ u ∈ z.map (Value.int .i64), u.oneCell' = true := by
  intro u hu
  obtain ⟨x, _, rfl⟩ := List.mem_map.1 hu
  rfl
/-- The sums at these places, patched. -/
def sumsL (was v : Int) (l : List UInt8) (zs : List Int) : List UInt8 := zs.foldl (fun c s => if s ≥ 0 then setW c s.toNat (patchI (wordL c s.toNat) was v) else c) l
theorem sumsL_len (was v : Int) : ∀ (zs : List Int) (l : List UInt8), (sumsL was v l zs).length = l.length
  | [], l => rfl
  | s :: zs, l => by
    show (sumsL was v _ zs).length = _
    rw [sumsL_len was v zs]
    dsimp only
    split
    · rw [setW_len]
    · rfl
theorem sumsL_snoc (was v : Int) (l : List UInt8) (zs : List Int) (s : Int) : sumsL was v l (zs ++ [s]) = if s ≥ 0 then setW (sumsL was v l zs) s.toNat (patchI (wordL (sumsL was v l zs) s.toNat) was v) else sumsL was v l zs := by simp [sumsL]
def overL (l : List UInt8) (k : Nat) (v : Int) (zs : List Int) : List UInt8 := setW (sumsL (wordL l k) v l zs) k v
theorem overL_len (l : List UInt8) (k : Nat) (v : Int) (zs : List Int) : (overL l k v zs).length = l.length := by
  unfold overL
  rw [setW_len, sumsL_len]
set_option maxRecDepth 100000 in
theorem rover_does {w : World} {F G : List Nat} {A B : Option Addr} {n c m d k : Nat} {l : List UInt8} {v : Int} {zs : List Int} (h : Row w 5 1 F A n c (l.map u8)) (hk : k + 2 ≤ n) (h0 : 0 ≤ v) (h1 : v ≤ 65535) (hn : n ≤ 140737488355328)
    (hs : Sl w 1 G B m (zs.map (Value.int .i64))) (hG : ∀ x ∈ G, x ∉ F) (hz : ∀ s ∈ zs, s + 2 ≤ n) (hm : m ≤ 1000000) :
    Does Tryz.prog 186 [.slice A n c, .int .i64 k, .int .i64 v, .slice B m d] w (fun r w' => r = .tuple ⟨[]⟩ ∧ Row w' 5 1 F A n c ((overL l k v zs).map u8) ∧ Only F w w') := by
  have hml : zs.length = m := by
    have := hs.1
    rw [List.length_map] at this
    omega
  have hlen : l.length = n := by
    have := h.len
    rw [List.length_map] at this
    omega
  have hw := wordL_bd l k
  refine Does.enter (fn := Tryz.f186) (by kernel_rfl) rfl (by kernel_rfl) (by kernel_rfl) ?_
  conv => whnf
  (refine (rget30_does (k := k) h.bs hk hn).mono ?_; rintro v w1 ⟨rfl, ho1⟩)
  have h1r := h.only ho1 (by simp)
  have hs1 := hs.o ho1
  conv => whnf
  refine VLoop.inv (α := Nat) [(4, 8), (9, 39)] (fun i => [(9, .int .i64 i)]) (fun i w' => i ≤ m ∧ Row w' 5 1 F A n c ((sumsL (wordL l k) v l (zs.take i)).map u8) ∧ Only F w1 w') (fun i => m - i) 0 (by kernel_rfl) ⟨rfl, trivial⟩ ⟨Nat.zero_le _, h1r, Only.refl _ _⟩ ?_
  rintro i wr j ⟨hi, hrow, ho⟩
  have hsr := hs1.only ho hG
  conv => whnf
  refine VIf.dec (fun ht => ?_) (fun ht => ?_)
  · have ht : (i : Int) < (m : Int) := ht
    have hil : i < zs.length := by omega
    have hzi := hz _ (List.getElem_mem hil)
    obtain ⟨b, off, rfl, -⟩ := hs.some_ (by omega)
    have hcell : (zs.map (Value.int .i64))[i]? = some (Value.int .i64 zs[i]) := by rw [List.getElem?_map, List.getElem?_eq_getElem hil]; rfl
    have ei : IntKind.i64.wrap ((i : Int) + 1) = ((i + 1 : Nat) : Int) := by rw [wi64]; omega
    have hsn : sumsL (wordL l k) v l (zs.take (i + 1)) = if zs[i] ≥ 0 then setW (sumsL (wordL l k) v l (zs.take i)) zs[i].toNat (patchI (wordL (sumsL (wordL l k) v l (zs.take i)) zs[i].toNat) (wordL l k) v) else sumsL (wordL l k) v l (zs.take i) := by
      rw [take_snoc' hil, sumsL_snoc]
    conv => whnf
    refine ⟨_, _, rfl, i, off + i, rfl, by omega, p1 _ _, ?_⟩
    conv => whnf
    (refine ⟨_, Loads.one (by kernel_rfl) (hsr.ld hcell), ?_⟩; conv => whnf)
    refine VIf.dec (fun h2 => ?_) (fun h2 => ?_)
    · rw [if_pos h2] at hsn
      obtain ⟨x, hx⟩ : ∃ x : Nat, zs[i] = (x : Int) := ⟨zs[i].toNat, by omega⟩
      rw [hx] at hsn hcell hzi
      rw [Int.toNat_natCast] at hsn
      conv => whnf
      refine VDraw.abs fun N2 hN2 => ?_
      refine VDraw.held (fun w' => Sl w' 1 G (some ⟨b, off, none⟩) m (zs.map (Value.int .i64))) [0, 1, 2, 3, 4, 5, 6, 7, 8, 9, 11, 12, 10, 13, 14] (by kernel_rfl) (by kernel_rfl) hsr ?_
      conv => whnf
      refine ⟨_, _, rfl, i, off + i, rfl, by omega, p1 _ _, ?_⟩
      conv => whnf
      (refine ⟨_, fun w' hw' => Loads.one (by kernel_rfl) (hw'.ld hcell), ?_⟩; conv => whnf)
      refine ⟨_, _, rfl, i, off + i, rfl, by omega, p1 _ _, ?_⟩
      conv => whnf
      (refine ⟨_, fun w' hw' => Loads.one (by kernel_rfl) (hw'.ld hcell), ?_⟩; conv => whnf)
      have hbd := wordL_bd (sumsL (wordL l k) v l (zs.take i)) x
      have hpb := patchI_bd (now := v) hbd.2 hw.2 h0
      refine (rget30_does (k := x) hrow.drew.bs (by omega) hn).mono ?_
      rintro r w3 ⟨rfl, ho3⟩
      refine ⟨hsr.o ((Only.refl [] wr).drew.t0 ho3), ?_⟩
      conv => whnf
      refine (rpatch_does hbd hw ⟨h0, h1⟩).mono ?_
      rintro r w4 ⟨rfl, rfl⟩
      refine ⟨hsr.o ((Only.refl [] wr).drew.t0 ho3), ?_⟩
      conv => whnf
      refine (rput_does (hrow.drew.only ho3 (by simp)) (by omega) hpb.1 hpb.2).mono ?_
      rintro r w5 ⟨rfl, hrow5, ho5⟩
      refine ⟨(hsr.o ((Only.refl [] wr).drew.t0 ho3)).only ho5 hG, ?_⟩
      conv => whnf
      refine hN2 _ _ ?_
      conv => whnf
      refine ⟨i + 1, ⟨congrArg (Value.int .i64) ei, trivial⟩, ⟨by omega, ?_, (ho.drew.f0 ho3).ff ho5⟩, by omega⟩
      rw [hsn]
      exact hrow5
    · rw [if_neg h2] at hsn
      conv => whnf
      refine ⟨i + 1, ⟨congrArg (Value.int .i64) ei, trivial⟩, ⟨by omega, ?_, ho⟩, by omega⟩
      rw [hsn]
      exact hrow
  · have ht : ¬ (i : Int) < (m : Int) := ht
    obtain rfl : i = m := by omega
    rw [List.take_of_length_le (by omega)] at hrow
    conv => whnf
    refine (rput_does hrow (by omega) h0 h1).mono ?_
    rintro r w5 ⟨rfl, hrow5, ho5⟩
    conv => whnf
    exact ⟨rfl, hrow5, (ho1.up.ff ho).ff ho5⟩
theorem sorted_succ {y : List Nm} (hs : y.Pairwise (fun a b => a.out < b.out)) (p : Int) : y.filter (fun m => decide (m.out < p + 1)) = y.filter (fun m => decide (m.out < p)) ++ y.filter (fun m => decide (m.out = p)) := by
  induction y with
  | nil => rfl
  | cons a t ih =>
    obtain ⟨h1, h2⟩ := List.pairwise_cons.1 hs
    have ih := ih h2
    by_cases ha : a.out < p
    · rw [List.filter_cons_of_pos (by simp; omega), List.filter_cons_of_pos (by simpa using ha), List.filter_cons_of_neg (by simp; omega), ih, List.cons_append]
    · have e1 : t.filter (fun m => decide (m.out < p)) = [] := List.filter_eq_nil_iff.2 (fun x hx => by have := h1 x hx; simp; omega)
      have e2 : t.filter (fun m => decide (m.out = p)) = [] := List.filter_eq_nil_iff.2 (fun x hx => by have := h1 x hx; simp; omega)
      rw [e1, e2] at ih
      by_cases hb : a.out = p
      · rw [List.filter_cons_of_pos (by simp; omega), List.filter_cons_of_neg (by simpa using ha), List.filter_cons_of_pos (by simpa using hb), ih, e1, e2]
        rfl
      · rw [List.filter_cons_of_neg (by simp; omega), List.filter_cons_of_neg (by simpa using ha), List.filter_cons_of_neg (by simpa using hb), ih, e1, e2]
theorem sorted_at {y z : List Nm} (hp : y.Perm z) (hs : y.Pairwise (fun a b => a.out < b.out)) (p : Int) : y.filter (fun m => decide (m.out = p)) = (z.find? (outIs p)).toList := by
  cases hf : z.find? (outIs p) with
  | none =>
    refine List.filter_eq_nil_iff.2 fun x hx => ?_
    have := List.find?_eq_none.1 hf x (hp.mem_iff.1 hx)
    unfold outIs at this
    simpa using this
  | some m =>
    have hm := List.mem_of_find?_eq_some hf
    have ho : m.out = p := by
      have := List.find?_some hf
      unfold outIs at this
      simpa using this
    have hmem : m ∈ y.filter (fun m => decide (m.out = p)) := List.mem_filter.2 ⟨hp.mem_iff.2 hm, decide_eq_true ho⟩
    have hpw := hs.sublist (List.filter_sublist (p := fun m => decide (m.out = p)) (l := y))
    have hall : ∀ x ∈ y.filter (fun m => decide (m.out = p)), x.out = p := fun x hx => of_decide_eq_true (List.mem_filter.1 hx).2
    generalize y.filter (fun m => decide (m.out = p)) = f at hmem hpw hall
    match f, hmem, hpw, hall with
    | [], hmem, _, _ => exact absurd hmem (by simp)
    | [a], hmem, _, _ =>
      rw [List.mem_singleton.1 hmem]
      rfl
    | a :: b :: r, _, hpw, hall =>
      exfalso
      have h1 := (List.pairwise_cons.1 hpw).1 b (by simp)
      have h2 := hall a (by simp)
      have h3 := hall b (by simp)
      omega
theorem filter_full {y : List Nm} {f : Nm → Bool} (h : (y.filter f).length = y.length) : y.filter f = y := List.filter_eq_self.2 (List.length_filter_eq_length_iff.1 h)
set_option maxHeartbeats 4000000 in
set_option maxRecDepth 100000 in
theorem rmaps_does {w : World} {T : Nat} {s : NatS} {F : List Nat} {y : List Nm} (h : St30 w T s F) (ok : okS s) (hp : y.Perm s.maps) (hs : y.Pairwise (fun a b => a.out < b.out)) (hr : ∀ m ∈ s.maps, s.cf.first ≤ m.out ∧ m.out ≤ s.cf.last) :
    Does Tryz.prog 47 [.pointer (some ⟨T, 0, none⟩)] w (fun v w' => Own w w' 48 20 (y.flatMap nmC) v) := by
  obtain ⟨A1, n1, c1, F1, A2, n2, c2, F2, A3, n3, c3, F3, hr3, rfl⟩ := h
  have okc := ok.cf
  have hb := hr3.b
  have hz := hr3.m.sl
  have hzn := hz.num nmC_len (by decide)
  have q1 := ok.nmaps
  have q2 := ok.cmaps
  have q3 := ok.first
  have q4 := ok.last
  have hyl := hp.length_eq
  refine Does.enter (fn := Tryz.f47) (by kernel_rfl) rfl (by kernel_rfl) (by kernel_rfl) ?_
  conv => whnf
  (refine ⟨_, Loads.one (by kernel_rfl) (hb.ntFirst okc), ?_⟩; conv => whnf)
  refine VLoop.inv (α := Nat × Option Addr × Nat × Nat) [(2, 46)] (fun | (i, B, m, d) => [(3, .slice B m d), (4, .int .i64 (s.cf.first + (i : Nat)))]) (fun | (i, B, m, d) => fun w' => (i : Int) ≤ max 0 (s.cf.last + 1 - s.cf.first) ∧ m ≤ n1 ∧ ∃ F, Row w' 48 20 F B m d ((y.filter (fun x => decide (x.out < s.cf.first + (i : Nat)))).flatMap nmC) ∧ Only [] w w' ∧ ∀ k ∈ F, w.heap.size ≤ k) (fun | (i, B, m, d) => 65537 - i) (0, none, 0, 0) (by kernel_rfl) ⟨rfl, congrArg (Value.int .i64) (by omega), trivial⟩ ⟨by omega, Nat.zero_le _, [], ?_, Only.refl _ _, by simp⟩ ?_
  · have e : y.filter (fun x => decide (x.out < s.cf.first + ((0 : Nat) : Int))) = [] := List.filter_eq_nil_iff.2 (fun x hx => by have := hr x (hp.mem_iff.1 hx); simp; omega)
    rw [e]
    exact Row.nil _ _ _ _
  rintro ⟨i, B, m, d⟩ wr j ⟨hi, hmn, F, hrow, ho, hF⟩
  have hbr := hb.only ho (by simp)
  have hzr := hz.o ho
  have hml := hrow.sl.num nmC_len (by decide)
  conv => whnf
  (refine ⟨_, Loads.one (by kernel_rfl) (hbr.ntLast okc), ?_⟩; conv => whnf)
  have done : y.filter (fun x => decide (x.out < s.cf.first + (i : Nat))) = y → Own w wr 48 20 (y.flatMap nmC) (.slice B m d) := fun e => ⟨B, m, d, F, rfl, by rw [e] at hrow; exact hrow, ho, hF⟩
  refine VIf.dec (fun ht => ?_) (fun ht => ?_)
  rotate_left
  · have ht : ¬ s.cf.first + (i : Int) ≤ s.cf.last := ht
    conv => whnf
    refine done (List.filter_eq_self.2 fun x hx => ?_)
    have := hr x (hp.mem_iff.1 hx)
    simp
    omega
  have ht : s.cf.first + (i : Int) ≤ s.cf.last := ht
  conv => whnf
  (refine ⟨_, Loads.one (by kernel_rfl) (hbr.ntM okc), ?_⟩; conv => whnf)
  refine VIf.dec (fun h2 => ?_) (fun h2 => ?_)
  rotate_left
  · have h2 : ¬ (m : Int) < (n1 : Int) := h2
    conv => whnf
    exact done (filter_full (by omega))
  have h2 : (m : Int) < (n1 : Int) := h2
  have ei : IntKind.i64.wrap (s.cf.first + (i : Int) + 1) = s.cf.first + ((i + 1 : Nat) : Int) := by rw [wi64]; omega
  have hsu : y.filter (fun x => decide (x.out < s.cf.first + ((i + 1 : Nat) : Int))) = y.filter (fun x => decide (x.out < s.cf.first + (i : Nat))) ++ (s.maps.find? (outIs (s.cf.first + (i : Nat)))).toList := by
    rw [← sorted_at hp hs, ← sorted_succ hs, show s.cf.first + ((i + 1 : Nat) : Int) = s.cf.first + (i : Nat) + 1 by omega]
  conv => whnf
  (refine (rout_does hbr okc hzr (by omega)).mono ?_; rintro v w1 ⟨rfl, ho1⟩)
  have hw1 := ho.t0 ho1
  have hb1 := hbr.only ho1 (by simp)
  have hrow1 := hrow.only ho1 (by simp)
  rcases find_idx (outIs (s.cf.first + (i : Nat))) s.maps with ⟨g1, g2⟩ | ⟨x, hx, g1, g2⟩
  · rw [g2, Option.toList_none, List.append_nil] at hsu
    conv => whnf
    refine VIf.dec (fun h3 => ?_) (fun h3 => ?_)
    · exact absurd h3 (by omega)
    conv => whnf
    refine ⟨(i + 1, B, m, d), ⟨rfl, congrArg (Value.int .i64) ei, trivial⟩, ⟨by omega, hmn, F, ?_, hw1, hF⟩, by show 65537 - (i + 1) < 65537 - i; omega⟩
    rw [hsu]
    exact hrow1
  · rw [g2] at hsu
    rw [g1]
    obtain ⟨b, off, rfl, -⟩ := hz.some_ (by omega)
    conv => whnf
    (refine ⟨_, Loads.one (by kernel_rfl) (hb1.ntM okc), ?_⟩; conv => whnf)
    refine ⟨_, _, rfl, x, off + x * 20, rfl, by omega, rfl, ?_⟩
    conv => whnf
    refine ⟨_, (hz.o hw1).elem nmC_len hx (by kernel_rfl) (by kernel_rfl), ?_⟩
    conv => whnf
    refine lenIs.of (Nat.succ.inj (nmC_len s.maps[x])) ?_
    conv => whnf
    have hxl : (nmC s.maps[x] ++ []).length = 1 * 20 := by rw [List.append_nil, nmC_len]
    refine vFall.append 48 20 48 rfl (by kernel_rfl) rfl (hrow1.alloc _) rfl (Sl.new w1 48 20 (nmC s.maps[x] ++ []) 1 hxl) (by rw [List.append_nil]; exact fun u hu => cell_of_one (one_nmC _ u hu)) (by omega) (by omega) ?_
    intro A5 c5 F5 w5 hr5 ho5 hF5
    have hal := (Only.refl [] w1).alloc (.cells ⟨nmC s.maps[x] ++ []⟩ 48)
    conv => whnf
    refine ⟨(i + 1, A5, m + 1, c5), ⟨rfl, congrArg (Value.int .i64) ei, trivial⟩, ⟨by omega, by omega, F5, ?_, (hw1.t0 hal).trans ho5 (fun x hx => .inr (hF x hx)), fun k hk => ?_⟩, by show 65537 - (i + 1) < 65537 - i; omega⟩
    · refine hr5.cast ?_
      rw [hsu, List.append_nil, List.flatMap_append]
      simp
    · rcases hF5 k hk with h1 | h1
      · exact hF k h1
      · exact Nat.le_trans (hw1.t0 hal).size h1
end Go.Proofs.YtofomopdaponbaaGreatDoor
/-
  The document's nat (mosaicref30): turn is the program's address and end. Plain laws of words written over; the walk of turn.
-/
namespace Go.Proofs.YtofomopdaponbaaGreatDoor
open Go.RowKit
set_option linter.unusedVariables false
set_option linter.unusedSimpArgs false

theorem setW_comm {l : List UInt8} {i j : Nat} {u v : Int} (h : i + 1 < j ∨ j + 1 < i) : setW (setW l i u) j v = setW (setW l j v) i u := by
  unfold setW
  rw [List.set_comm (i := i + 1) (j := j) _ _ (by omega), List.set_comm (i := i) (j := j) _ _ (by omega), List.set_comm (i := i + 1) (j := j + 1) _ _ (by omega), List.set_comm (i := i) (j := j + 1) _ _ (by omega)]
theorem over2 {l : List UInt8} {k : Nat} {v : Int} {S : Int} : overL l k v [S] = setW (if S ≥ 0 then setW l S.toNat (patchI (wordL l S.toNat) (wordL l k) v) else l) k v := rfl
theorem over3 {l : List UInt8} {k x : Nat} {v : Int} {S : Int} : overL l k v [(x : Int), S] = setW (if S ≥ 0 then setW (setW l x (patchI (wordL l x) (wordL l k) v)) S.toNat (patchI (wordL (setW l x (patchI (wordL l x) (wordL l k) v)) S.toNat) (wordL l k) v) else setW l x (patchI (wordL l x) (wordL l k) v)) k v := by
  show setW (sumsL (wordL l k) v (if (x : Int) ≥ 0 then setW l (x : Int).toNat (patchI (wordL l (x : Int).toNat) (wordL l k) v) else l) [S]) k v = _
  rw [if_pos (by omega), Int.toNat_natCast]
  rfl
/-- The bytes that turn answers where no port is asked for. -/
def turnAL (l : List UInt8) (k : Nat) (a : Ad) : List UInt8 := overL (overL l k (wordL a.2 0) [10, -1]) (k + 2) (wordL a.2 2) [10, -1]
theorem turnA_eq {l : List UInt8} {k : Nat} {a : Ad} (hk : k = 12 ∨ k = 16) (h20 : 20 ≤ l.length) : turnAL l k a = addressL l k a := by
  have b0 := wordL_bd a.2 0
  have b2 := wordL_bd a.2 2
  have c10 := wordL_bd l 10
  have ck := wordL_bd l k
  have ck2 := wordL_bd l (k + 2)
  have p1 := patchI_bd c10.2 ck.2 b0.1
  have p2 := patchI_bd p1.2 ck2.2 b2.1
  have e1 : overL l k (wordL a.2 0) [10, -1] = setW (setW l 10 (patchI (wordL l 10) (wordL l k) (wordL a.2 0))) k (wordL a.2 0) := rfl
  unfold turnAL
  rw [e1]
  generalize hs1 : patchI (wordL l 10) (wordL l k) (wordL a.2 0) = s1 at p1 p2
  have e2 : ∀ X : List UInt8, overL X (k + 2) (wordL a.2 2) [10, -1] = setW (setW X 10 (patchI (wordL X 10) (wordL X (k + 2)) (wordL a.2 2))) (k + 2) (wordL a.2 2) := fun X => rfl
  have f1 : wordL (setW (setW l 10 s1) k (wordL a.2 0)) 10 = s1 := (wordL_setW_ne (by omega)).trans (wordL_setW (by omega) p1.1 p1.2)
  have f2 : wordL (setW (setW l 10 s1) k (wordL a.2 0)) (k + 2) = wordL l (k + 2) := (wordL_setW_ne (by omega)).trans (wordL_setW_ne (by omega))
  rw [e2, f1, f2, setW_comm (i := k) (j := 10) (by omega), setW_setW]
  have g1 : wordL (setW (setW l k (wordL a.2 0)) (k + 2) (wordL a.2 2)) 10 = wordL l 10 := (wordL_setW_ne (by omega)).trans (wordL_setW_ne (by omega))
  have g2 : wordL (setW l k (wordL a.2 0)) (k + 2) = wordL l (k + 2) := wordL_setW_ne (by omega)
  unfold addressL addrAtC addrAtL patchL
  simp only [List.foldl_cons, List.foldl_nil]
  rw [g1, g2, hs1, setW_comm (i := 10) (j := k) (by omega), setW_comm (i := 10) (j := k + 2) (by omega)]
def turnPL (l : List UInt8) (k : Nat) (a : Ad) (p : Int) (head : Nat) : List UInt8 := overL (overL (overL l k (wordL a.2 0) [10, sumAt l head]) (k + 2) (wordL a.2 2) [10, sumAt l head]) (head + (k - 12) / 2) p [sumAt l head]
def turnFL (l : List UInt8) (S : Int) : List UInt8 := if S ≥ 0 ∧ wordL l S.toNat = 0 then setW l S.toNat 65535 else l
theorem turnP_eq {l : List UInt8} {k head : Nat} {a : Ad} {p : Int} (hk : k = 12 ∨ k = 16) (hh : 20 ≤ head) (hl : head + 8 ≤ l.length) (hp : 0 ≤ p ∧ p ≤ 65535) : turnFL (turnPL l k a p head) (sumAt l head) = endL l k a p head := by
  have b0 := wordL_bd a.2 0
  have b2 := wordL_bd a.2 2
  have c10 := wordL_bd l 10
  have ck := wordL_bd l k
  have ck2 := wordL_bd l (k + 2)
  have cS := wordL_bd l (head + 6)
  have cp := wordL_bd l (head + (k - 12) / 2)
  have hA := turnA_eq (a := a) hk (show 20 ≤ l.length by omega)
  have hpp : p16 p = p := by unfold p16; omega
  have wS : wordL (addressL l k a) (head + 6) = wordL l (head + 6) := by
    unfold addressL addrAtL
    exact (wordL_setW_ne (by omega)).trans ((wordL_setW_ne (by omega)).trans (wordL_setW_ne (by omega)))
  have wP : wordL (addressL l k a) (head + (k - 12) / 2) = wordL l (head + (k - 12) / 2) := by
    unfold addressL addrAtL
    exact (wordL_setW_ne (by omega)).trans ((wordL_setW_ne (by omega)).trans (wordL_setW_ne (by omega)))
  have w3 : wordL (end3L l k a p head) (head + 6) = wordL l (head + 6) := by
    unfold end3L
    exact (wordL_setW_ne (by omega)).trans wS
  by_cases h0 : wordL l (head + 6) = 0
  · have hs : sumAt l head = -1 := if_pos (.inr h0)
    unfold turnPL turnFL
    rw [hs, if_neg (by omega)]
    unfold endL udpL
    rw [w3, if_pos h0]
    show overL (turnAL l k a) (head + (k - 12) / 2) p [-1] = _
    rw [hA]
    unfold end3L
    rw [hpp]
    rfl
  have hs : sumAt l head = ((head + 6 : Nat) : Int) := if_neg (by intro hc; rcases hc with hc | hc; omega; exact h0 hc)
  -- the sums, one behind another
  have p1 := patchI_bd c10.2 ck.2 b0.1
  have s1 := patchI_bd cS.2 ck.2 b0.1
  have p2 := patchI_bd p1.2 ck2.2 b2.1
  have s2 := patchI_bd s1.2 ck2.2 b2.1
  have s3 := patchI_bd s2.2 cp.2 hp.1
  unfold turnPL
  rw [hs]
  have n6 : ((head + 6 : Nat) : Int) ≥ 0 := by omega
  have e1 : overL l k (wordL a.2 0) [10, ((head + 6 : Nat) : Int)] = setW (setW (setW l 10 (patchI (wordL l 10) (wordL l k) (wordL a.2 0))) (head + 6) (patchI (wordL l (head + 6)) (wordL l k) (wordL a.2 0))) k (wordL a.2 0) := by
    refine (over3 (x := 10)).trans ?_
    rw [if_pos n6, Int.toNat_natCast, wordL_setW_ne (k := 10) (j := head + 6) (by omega)]
  rw [e1]
  generalize hp1 : patchI (wordL l 10) (wordL l k) (wordL a.2 0) = x1 at p1 p2
  generalize hs1 : patchI (wordL l (head + 6)) (wordL l k) (wordL a.2 0) = y1 at s1 s2 s3
  have e2 : overL (setW (setW (setW l 10 x1) (head + 6) y1) k (wordL a.2 0)) (k + 2) (wordL a.2 2) [10, ((head + 6 : Nat) : Int)] = setW (setW (setW (setW l 10 (patchI x1 (wordL l (k + 2)) (wordL a.2 2))) (head + 6) (patchI y1 (wordL l (k + 2)) (wordL a.2 2))) k (wordL a.2 0)) (k + 2) (wordL a.2 2) := by
    refine (over3 (x := 10)).trans ?_
    have f1 : wordL (setW (setW (setW l 10 x1) (head + 6) y1) k (wordL a.2 0)) 10 = x1 := (wordL_setW_ne (by omega)).trans ((wordL_setW_ne (by omega)).trans (wordL_setW (by omega) p1.1 p1.2))
    have f2 : wordL (setW (setW (setW l 10 x1) (head + 6) y1) k (wordL a.2 0)) (k + 2) = wordL l (k + 2) := (wordL_setW_ne (by omega)).trans ((wordL_setW_ne (by omega)).trans (wordL_setW_ne (by omega)))
    have f3 : wordL (setW (setW (setW l 10 x1) (head + 6) y1) k (wordL a.2 0)) (head + 6) = y1 := (wordL_setW_ne (by omega)).trans (wordL_setW (by rw [setW_len]; omega) s1.1 s1.2)
    rw [if_pos n6, Int.toNat_natCast, wordL_setW_ne (k := 10) (j := head + 6) (by omega), f1, f2, f3]
    generalize patchI x1 (wordL l (k + 2)) (wordL a.2 2) = x2
    generalize patchI y1 (wordL l (k + 2)) (wordL a.2 2) = y2
    rw [setW_comm (i := k) (j := 10) (by omega), setW_comm (i := head + 6) (j := 10) (by omega), setW_setW, setW_comm (i := k) (j := head + 6) (by omega), setW_setW]
  rw [e2]
  generalize hp2 : patchI x1 (wordL l (k + 2)) (wordL a.2 2) = x2 at p2
  generalize hs2 : patchI y1 (wordL l (k + 2)) (wordL a.2 2) = y2 at s2 s3
  have e3 : overL (setW (setW (setW (setW l 10 x2) (head + 6) y2) k (wordL a.2 0)) (k + 2) (wordL a.2 2)) (head + (k - 12) / 2) p [((head + 6 : Nat) : Int)] = setW (setW (setW (setW (setW l 10 x2) (head + 6) (patchI y2 (wordL l (head + (k - 12) / 2)) p)) k (wordL a.2 0)) (k + 2) (wordL a.2 2)) (head + (k - 12) / 2) p := by
    refine over2.trans ?_
    have f1 : wordL (setW (setW (setW (setW l 10 x2) (head + 6) y2) k (wordL a.2 0)) (k + 2) (wordL a.2 2)) (head + 6) = y2 := (wordL_setW_ne (by omega)).trans ((wordL_setW_ne (by omega)).trans (wordL_setW (by rw [setW_len]; omega) s2.1 s2.2))
    have f2 : wordL (setW (setW (setW (setW l 10 x2) (head + 6) y2) k (wordL a.2 0)) (k + 2) (wordL a.2 2)) (head + (k - 12) / 2) = wordL l (head + (k - 12) / 2) := (wordL_setW_ne (by omega)).trans ((wordL_setW_ne (by omega)).trans ((wordL_setW_ne (by omega)).trans (wordL_setW_ne (by omega))))
    rw [if_pos n6, Int.toNat_natCast, f1, f2]
    generalize patchI y2 (wordL l (head + (k - 12) / 2)) p = y3
    rw [setW_comm (i := k + 2) (j := head + 6) (by omega), setW_comm (i := k) (j := head + 6) (by omega), setW_setW]
  rw [e3]
  generalize hs3 : patchI y2 (wordL l (head + (k - 12) / 2)) p = y3 at s3
  have f4 : wordL (setW (setW (setW (setW (setW l 10 x2) (head + 6) y3) k (wordL a.2 0)) (k + 2) (wordL a.2 2)) (head + (k - 12) / 2) p) (head + 6) = y3 := (wordL_setW_ne (by omega)).trans ((wordL_setW_ne (by omega)).trans ((wordL_setW_ne (by omega)).trans (wordL_setW (by rw [setW_len]; omega) s3.1 s3.2)))
  -- the program's
  have g1 : wordL (setW (setW l k (wordL a.2 0)) (k + 2) (wordL a.2 2)) 10 = wordL l 10 := (wordL_setW_ne (by omega)).trans (wordL_setW_ne (by omega))
  have g2 : wordL (setW l k (wordL a.2 0)) (k + 2) = wordL l (k + 2) := wordL_setW_ne (by omega)
  have hadr : addressL l k a = setW (setW (setW l 10 x2) k (wordL a.2 0)) (k + 2) (wordL a.2 2) := by
    unfold addressL addrAtC addrAtL patchL
    simp only [List.foldl_cons, List.foldl_nil]
    rw [g1, g2, hp1, hp2, setW_comm (i := 10) (j := k) (by omega), setW_comm (i := 10) (j := k + 2) (by omega)]
  have hch : patchL (wordL l (head + 6)) (endC l k a p head) = y3 := by
    unfold endC addrAtC patchL
    simp only [List.cons_append, List.nil_append, List.foldl_cons, List.foldl_nil]
    rw [wP, g2, hpp, hs1, hs2, hs3]
  unfold endL udpL
  rw [w3, if_neg h0]
  unfold udpS
  rw [hch]
  unfold end3L
  rw [hadr, hpp]
  unfold turnFL
  rw [Int.toNat_natCast, f4]
  by_cases hz : y3 = 0
  · rw [if_pos ⟨n6, hz⟩, if_pos hz]
    rw [setW_comm (i := head + (k - 12) / 2) (j := head + 6) (by omega), setW_comm (i := k + 2) (j := head + 6) (by omega), setW_comm (i := k) (j := head + 6) (by omega), setW_setW]
    rw [setW_comm (i := head + (k - 12) / 2) (j := head + 6) (by omega), setW_comm (i := k + 2) (j := head + 6) (by omega), setW_comm (i := k) (j := head + 6) (by omega)]
  · rw [if_neg (fun h => hz h.2), if_neg hz]
    rw [setW_comm (i := head + (k - 12) / 2) (j := head + 6) (by omega), setW_comm (i := k + 2) (j := head + 6) (by omega), setW_comm (i := k) (j := head + 6) (by omega)]
end Go.Proofs.YtofomopdaponbaaGreatDoor
/-
  The document's nat (mosaicref30): the walk of turn.
-/
namespace Go.Proofs.YtofomopdaponbaaGreatDoor
open Go.RowKit
set_option linter.unusedVariables false
set_option linter.unusedSimpArgs false

theorem Row.len8 {w : World} {e : TypeId} {F : List Nat} {A : Option Addr} {n c : Nat} {l : List UInt8} (h : Row w e 1 F A n c (l.map u8)) : l.length = n := by
  have := h.len
  rw [List.length_map] at this
  omega
set_option maxHeartbeats 4000000 in
set_option maxRecDepth 100000 in
theorem rturnA_does {w : World} {G : List Nat} {A : Option Addr} {n c head k : Nat} {l : List UInt8} {a : Ad} (h : Bs w G A n l) (h20 : 20 ≤ n) (hn : n ≤ 65535) (hk : k = 12 ∨ k = 16) (hh : head ≤ 65535) (ha : okAd a) :
    Does Tryz.prog 115 [.slice A n c, .int .i64 head, .bool (Nat.beq k 16), .agg ⟨adC a⟩, .int .i64 (-1)] w (fun v w' => Own w w' 5 1 ((addressL l k a).map u8) v) := by
  have hl := h.len
  have b0 := wordL_bd a.2 0
  have b2 := wordL_bd a.2 2
  have b8 := Blk.new w 24 ⟨adC a⟩
  have hA := Only.alloc (Only.refl [] w) (.cells ⟨adC a⟩ 24)
  rw [← turnA_eq (a := a) hk (show 20 ≤ l.length by omega)]
  rcases hk with rfl | rfl
  · refine Does.enter (fn := Tryz.f115) (by kernel_rfl) rfl (by kernel_rfl) (by kernel_rfl) ?_
    conv => whnf
    refine vFall.append 5 1 1 rfl (by kernel_rfl) rfl (Row.nil _ _ _ _) rfl (h.o hA) (one_u8 l) (by omega) (by omega) ?_
    intro A1 c1 F1 w1 hr1 ho1 hF1
    have en : 0 + n = n := Nat.zero_add n
    rw [en, List.nil_append] at hr1
    rw [en]
    have how1 := hA.t0 ho1
    have b81 := b8.only ho1 (by simp)
    have lF1 := hr1.lt
    have hF1' : ∀ k ∈ F1, w.heap.size ≤ k := fun k hk => (hF1 k hk).elim (fun h => absurd h (by simp)) (fun h => Nat.le_trans hA.size h)
    have hF8 : w.heap.size ∉ F1 := fun hm => by
      have h1 := (hF1 _ hm).elim (fun h => absurd h (by simp)) id
      have h2 := World.size_alloc w (.cells ⟨adC a⟩ 24)
      omega
    conv => whnf
    refine VJoin.go (by kernel_rfl) ?_
    conv => whnf
    refine VJoin.go (by kernel_rfl) ?_
    conv => whnf
    refine ⟨_, Loads.all b81 (by kernel_rfl) (by rw [adC_len ha]; kernel_rfl), ?_⟩
    conv => whnf
    (refine (rword_does (i := 0) ha (by decide)).mono ?_; rintro v w2 ⟨rfl, ho2⟩)
    have b82 := b81.only ho2 (by simp)
    have hr2 := hr1.only ho2 (by simp)
    have hs2 := Sl.new w2 3 1 [.int .i64 10, .int .i64 (-1)] 2 rfl
    conv => whnf
    have ho3 := (Only.refl [] w2).alloc (.cells ⟨[Value.int .i64 10, .int .i64 (-1)]⟩ 3)
    refine (rover_does (k := 12) (zs := [10, -1]) (hr2.only ho3 (by simp)) (by omega) b0.1 b0.2 (by omega) hs2 (fun x hx hm => ?_) (by intro s hs; simp at hs; omega) (by decide)).mono ?_
    · obtain rfl : x = w2.heap.size := by simpa using hx
      have := hr2.lt _ hm
      omega
    rintro v w4 ⟨rfl, hr4, ho4⟩
    have how4 : Only F1 w1 w4 := (ho2.t0 ho3).zf ho4
    have b84 := b81.only how4 hF8
    conv => whnf
    refine ⟨_, Loads.all b84 (by kernel_rfl) (by rw [adC_len ha]; kernel_rfl), ?_⟩
    conv => whnf
    (refine (rword_does (i := 1) ha (by decide)).mono ?_; rintro v w5 ⟨rfl, ho5⟩)
    have hr5 := hr4.only ho5 (by simp)
    have hs5 := Sl.new w5 3 1 [.int .i64 10, .int .i64 (-1)] 2 rfl
    conv => whnf
    have ho6 := (Only.refl [] w5).alloc (.cells ⟨[Value.int .i64 10, .int .i64 (-1)]⟩ 3)
    refine (rover_does (k := 14) (zs := [10, -1]) (hr5.only ho6 (by simp)) (by omega) b2.1 b2.2 (by omega) hs5 (fun x hx hm => ?_) (by intro s hs; simp at hs; omega) (by decide)).mono ?_
    · obtain rfl : x = w5.heap.size := by simpa using hx
      have := hr5.lt _ hm
      omega
    rintro v w7 ⟨rfl, hr7, ho7⟩
    have how7 : Only F1 w1 w7 := (how4.f0 (ho5.t0 ho6)).ff ho7
    conv => whnf
    refine VJoin.go (by kernel_rfl) ?_
    conv => whnf
    refine VJoin.go (by kernel_rfl) ?_
    conv => whnf
    exact ⟨A1, n, c1, F1, rfl, hr7, how1.trans how7 (fun x hx => .inr (hF1' x hx)), hF1'⟩
  · refine Does.enter (fn := Tryz.f115) (by kernel_rfl) rfl (by kernel_rfl) (by kernel_rfl) ?_
    conv => whnf
    refine vFall.append 5 1 1 rfl (by kernel_rfl) rfl (Row.nil _ _ _ _) rfl (h.o hA) (one_u8 l) (by omega) (by omega) ?_
    intro A1 c1 F1 w1 hr1 ho1 hF1
    have en : 0 + n = n := Nat.zero_add n
    rw [en, List.nil_append] at hr1
    rw [en]
    have how1 := hA.t0 ho1
    have b81 := b8.only ho1 (by simp)
    have lF1 := hr1.lt
    have hF1' : ∀ k ∈ F1, w.heap.size ≤ k := fun k hk => (hF1 k hk).elim (fun h => absurd h (by simp)) (fun h => Nat.le_trans hA.size h)
    have hF8 : w.heap.size ∉ F1 := fun hm => by
      have h1 := (hF1 _ hm).elim (fun h => absurd h (by simp)) id
      have h2 := World.size_alloc w (.cells ⟨adC a⟩ 24)
      omega
    conv => whnf
    refine VJoin.go (by kernel_rfl) ?_
    conv => whnf
    refine VJoin.go (by kernel_rfl) ?_
    conv => whnf
    refine ⟨_, Loads.all b81 (by kernel_rfl) (by rw [adC_len ha]; kernel_rfl), ?_⟩
    conv => whnf
    (refine (rword_does (i := 0) ha (by decide)).mono ?_; rintro v w2 ⟨rfl, ho2⟩)
    have b82 := b81.only ho2 (by simp)
    have hr2 := hr1.only ho2 (by simp)
    have hs2 := Sl.new w2 3 1 [.int .i64 10, .int .i64 (-1)] 2 rfl
    conv => whnf
    have ho3 := (Only.refl [] w2).alloc (.cells ⟨[Value.int .i64 10, .int .i64 (-1)]⟩ 3)
    refine (rover_does (k := 16) (zs := [10, -1]) (hr2.only ho3 (by simp)) (by omega) b0.1 b0.2 (by omega) hs2 (fun x hx hm => ?_) (by intro s hs; simp at hs; omega) (by decide)).mono ?_
    · obtain rfl : x = w2.heap.size := by simpa using hx
      have := hr2.lt _ hm
      omega
    rintro v w4 ⟨rfl, hr4, ho4⟩
    have how4 : Only F1 w1 w4 := (ho2.t0 ho3).zf ho4
    have b84 := b81.only how4 hF8
    conv => whnf
    refine ⟨_, Loads.all b84 (by kernel_rfl) (by rw [adC_len ha]; kernel_rfl), ?_⟩
    conv => whnf
    (refine (rword_does (i := 1) ha (by decide)).mono ?_; rintro v w5 ⟨rfl, ho5⟩)
    have hr5 := hr4.only ho5 (by simp)
    have hs5 := Sl.new w5 3 1 [.int .i64 10, .int .i64 (-1)] 2 rfl
    conv => whnf
    have ho6 := (Only.refl [] w5).alloc (.cells ⟨[Value.int .i64 10, .int .i64 (-1)]⟩ 3)
    refine (rover_does (k := 18) (zs := [10, -1]) (hr5.only ho6 (by simp)) (by omega) b2.1 b2.2 (by omega) hs5 (fun x hx hm => ?_) (by intro s hs; simp at hs; omega) (by decide)).mono ?_
    · obtain rfl : x = w5.heap.size := by simpa using hx
      have := hr5.lt _ hm
      omega
    rintro v w7 ⟨rfl, hr7, ho7⟩
    have how7 : Only F1 w1 w7 := (how4.f0 (ho5.t0 ho6)).ff ho7
    conv => whnf
    refine VJoin.go (by kernel_rfl) ?_
    conv => whnf
    refine VJoin.go (by kernel_rfl) ?_
    conv => whnf
    exact ⟨A1, n, c1, F1, rfl, hr7, how1.trans how7 (fun x hx => .inr (hF1' x hx)), hF1'⟩
theorem sumAt_bd {l : List UInt8} {k : Nat} : sumAt l k + 2 ≤ l.length ∨ sumAt l k = -1 := by
  unfold sumAt
  split
  · exact .inr rfl
  · rename_i h
    exact .inl (by omega)
theorem sumAt_ge (l : List UInt8) (k : Nat) : -1 ≤ sumAt l k ∧ sumAt l k ≤ k + 6 := by
  unfold sumAt
  split <;> omega
set_option maxHeartbeats 4000000 in
set_option maxRecDepth 100000 in
theorem rturnP_does {w : World} {G : List Nat} {A : Option Addr} {n c head k : Nat} {l : List UInt8} {a : Ad} {p : Int} (h : Bs w G A n l) (h20 : 20 ≤ head) (hl8 : head + 8 ≤ n) (hn : n ≤ 65535) (hk : k = 12 ∨ k = 16) (ha : okAd a) (hp : 0 ≤ p ∧ p ≤ 65535) :
    Does Tryz.prog 115 [.slice A n c, .int .i64 head, .bool (Nat.beq k 16), .agg ⟨adC a⟩, .int .i64 p] w (fun v w' => Own w w' 5 1 ((endL l k a p head).map u8) v) := by
  have hl := h.len
  have b0 := wordL_bd a.2 0
  have b2 := wordL_bd a.2 2
  have b8 := Blk.new w 24 ⟨adC a⟩
  have hA := Only.alloc (Only.refl [] w) (.cells ⟨adC a⟩ 24)
  have hSb := sumAt_bd (l := l) (k := head)
  have hSg := sumAt_ge l head
  have eh2 : IntKind.i64.wrap ((head : Int) + 2) = ((head + 2 : Nat) : Int) := by rw [wi64]; omega
  rw [← turnP_eq (a := a) (p := p) hk h20 (show head + 8 ≤ l.length by omega) hp]
  unfold turnPL
  generalize hS : sumAt l head = S at hSb hSg
  rcases hk with rfl | rfl
  · refine Does.enter (fn := Tryz.f115) (by kernel_rfl) rfl (by kernel_rfl) (by kernel_rfl) ?_
    conv => whnf
    refine vFall.append 5 1 1 rfl (by kernel_rfl) rfl (Row.nil _ _ _ _) rfl (h.o hA) (one_u8 l) (by omega) (by omega) ?_
    intro A1 c1 F1 w1 hr1 ho1 hF1
    have en : 0 + n = n := Nat.zero_add n
    rw [en, List.nil_append] at hr1
    rw [en]
    have how1 := hA.t0 ho1
    have b81 := b8.only ho1 (by simp)
    have hF1' : ∀ k ∈ F1, w.heap.size ≤ k := fun k hk => (hF1 k hk).elim (fun h => absurd h (by simp)) (fun h => Nat.le_trans hA.size h)
    have hF8 : w.heap.size ∉ F1 := fun hm => by
      have h1 := (hF1 _ hm).elim (fun h => absurd h (by simp)) id
      have h2 := World.size_alloc w (.cells ⟨adC a⟩ 24)
      omega
    conv => whnf
    refine VJoin.go (by kernel_rfl) ?_
    conv => whnf
    refine VJoin.go (by kernel_rfl) ?_
    conv => whnf
    refine VIf.dec (fun _ => ?_) (fun hne => absurd hp.1 hne)
    conv => whnf
    refine (rudpSum_does (k := head) hr1.bs (by omega) (by omega)).mono ?_
    rintro v wu ⟨rfl, hou⟩
    rw [hS]
    have hr1 := hr1.only hou (by simp)
    have b81 := b81.only hou (by simp)
    conv => whnf
    refine ⟨_, Loads.all b81 (by kernel_rfl) (by rw [adC_len ha]; kernel_rfl), ?_⟩
    conv => whnf
    (refine (rword_does (i := 0) ha (by decide)).mono ?_; rintro v w2 ⟨rfl, ho2⟩)
    have hr2 := hr1.only ho2 (by simp)
    have hs2 := Sl.new w2 3 1 [.int .i64 10, .int .i64 S] 2 rfl
    conv => whnf
    have ho3 := (Only.refl [] w2).alloc (.cells ⟨[Value.int .i64 10, .int .i64 S]⟩ 3)
    refine (rover_does (k := 12) (zs := [10, S]) (hr2.only ho3 (by simp)) (by omega) b0.1 b0.2 (by omega) hs2 (fun x hx hm => ?_) (by intro s hs; simp at hs; omega) (by decide)).mono ?_
    · obtain rfl : x = w2.heap.size := by simpa using hx
      have := hr2.lt _ hm
      omega
    rintro v w4 ⟨rfl, hr4, ho4⟩
    have how4 : Only F1 wu w4 := (ho2.t0 ho3).zf ho4
    have b84 := b81.only how4 hF8
    conv => whnf
    refine ⟨_, Loads.all b84 (by kernel_rfl) (by rw [adC_len ha]; kernel_rfl), ?_⟩
    conv => whnf
    (refine (rword_does (i := 1) ha (by decide)).mono ?_; rintro v w5 ⟨rfl, ho5⟩)
    have hr5 := hr4.only ho5 (by simp)
    have hs5 := Sl.new w5 3 1 [.int .i64 10, .int .i64 S] 2 rfl
    conv => whnf
    have ho6 := (Only.refl [] w5).alloc (.cells ⟨[Value.int .i64 10, .int .i64 S]⟩ 3)
    refine (rover_does (k := 14) (zs := [10, S]) (hr5.only ho6 (by simp)) (by omega) b2.1 b2.2 (by omega) hs5 (fun x hx hm => ?_) (by intro s hs; simp at hs; omega) (by decide)).mono ?_
    · obtain rfl : x = w5.heap.size := by simpa using hx
      have := hr5.lt _ hm
      omega
    rintro v w7 ⟨rfl, hr7, ho7⟩
    have how7 : Only F1 wu w7 := (how4.f0 (ho5.t0 ho6)).ff ho7
    conv => whnf
    refine VJoin.go (by kernel_rfl) ?_
    conv => whnf
    refine VIf.dec (fun _ => ?_) (fun hne => absurd hp.1 hne)
    conv => whnf
    have hs7 := Sl.new w7 3 1 [.int .i64 S] 1 rfl
    have ho8 := (Only.refl [] w7).alloc (.cells ⟨[Value.int .i64 S]⟩ 3)
    refine (rover_does (k := head) (zs := [S]) (hr7.only ho8 (by simp)) (by omega) hp.1 hp.2 (by omega) hs7 (fun x hx hm => ?_) (by intro s hs; simp at hs; omega) (by decide)).mono ?_
    · obtain rfl : x = w7.heap.size := by simpa using hx
      have := hr7.lt _ hm
      omega
    rintro v w9 ⟨rfl, hr9, ho9⟩
    have how9 : Only F1 wu w9 := (how7.f0 ho8).ff ho9
    have hr9b : Row w9 5 1 F1 A1 n c1 ((overL (overL (overL l 12 (wordL a.2 0) [10, S]) (12 + 2) (wordL a.2 2) [10, S]) (head + (12 - 12) / 2) p [S]).map u8) := hr9
    clear hr9
    generalize overL (overL (overL l 12 (wordL a.2 0) [10, S]) (12 + 2) (wordL a.2 2) [10, S]) (head + (12 - 12) / 2) p [S] = L3 at hr9b ⊢
    have hr9 := hr9b
    clear hr9b
    have hl3 := hr9.len8
    have fin : ∀ {w' : World} {z : List UInt8}, Row w' 5 1 F1 A1 n c1 (z.map u8) → Only F1 w9 w' → Own w w' 5 1 (z.map u8) (.slice A1 n c1) := fun hr ho =>
      ⟨A1, n, c1, F1, rfl, hr, (how1.t0 hou).trans (how9.ff ho) (fun x hx => .inr (hF1' x hx)), hF1'⟩
    conv => whnf
    refine VJoin.go (by kernel_rfl) ?_
    conv => whnf
    refine VIf.dec (fun hs0 => ?_) (fun hs0 => ?_)
    · obtain ⟨x, rfl⟩ : ∃ x : Nat, S = (x : Int) := ⟨S.toNat, by omega⟩
      conv => whnf
      refine (rget30_does (k := x) hr9.bs (by omega) (by omega)).mono ?_
      intro v w10 hvw
      have ho10 := hvw.2
      rw [hvw.1]
      clear hvw
      have hr10 := hr9.only ho10 (by simp)
      conv => whnf
      refine VIf.eq (fun hz => ?_) (fun hz => ?_)
      · conv => whnf
        refine (rput_does hr10 (by omega) (by decide) (by decide)).mono ?_
        rintro v w11 ⟨rfl, hr11, ho11⟩
        conv => whnf
        have e : turnFL L3 ((x : Nat) : Int) = setW L3 ((x : Nat) : Int).toNat 65535 := if_pos ⟨by omega, hz⟩
        refine (?_ : Own w w11 5 1 _ _)
        rw [e, Int.toNat_natCast]
        exact fin hr11 (ho10.zf ho11)
      · conv => whnf
        have e : turnFL L3 ((x : Nat) : Int) = L3 := if_neg (fun h => hz h.2)
        refine (?_ : Own w w10 5 1 _ _)
        rw [e]
        exact fin hr10 ho10.up
    · conv => whnf
      have e : turnFL L3 S = L3 := if_neg (fun h => hs0 h.1)
      refine (?_ : Own w w9 5 1 _ _)
      rw [e]
      exact fin hr9 (Only.refl _ _)
  · refine Does.enter (fn := Tryz.f115) (by kernel_rfl) rfl (by kernel_rfl) (by kernel_rfl) ?_
    conv => whnf
    refine vFall.append 5 1 1 rfl (by kernel_rfl) rfl (Row.nil _ _ _ _) rfl (h.o hA) (one_u8 l) (by omega) (by omega) ?_
    intro A1 c1 F1 w1 hr1 ho1 hF1
    have en : 0 + n = n := Nat.zero_add n
    rw [en, List.nil_append] at hr1
    rw [en]
    have how1 := hA.t0 ho1
    have b81 := b8.only ho1 (by simp)
    have hF1' : ∀ k ∈ F1, w.heap.size ≤ k := fun k hk => (hF1 k hk).elim (fun h => absurd h (by simp)) (fun h => Nat.le_trans hA.size h)
    have hF8 : w.heap.size ∉ F1 := fun hm => by
      have h1 := (hF1 _ hm).elim (fun h => absurd h (by simp)) id
      have h2 := World.size_alloc w (.cells ⟨adC a⟩ 24)
      omega
    conv => whnf
    refine VJoin.go (by kernel_rfl) ?_
    conv => whnf
    rw [eh2]
    conv => whnf
    refine VJoin.go (by kernel_rfl) ?_
    conv => whnf
    refine VIf.dec (fun _ => ?_) (fun hne => absurd hp.1 hne)
    conv => whnf
    refine (rudpSum_does (k := head) hr1.bs (by omega) (by omega)).mono ?_
    rintro v wu ⟨rfl, hou⟩
    rw [hS]
    have hr1 := hr1.only hou (by simp)
    have b81 := b81.only hou (by simp)
    conv => whnf
    refine ⟨_, Loads.all b81 (by kernel_rfl) (by rw [adC_len ha]; kernel_rfl), ?_⟩
    conv => whnf
    (refine (rword_does (i := 0) ha (by decide)).mono ?_; rintro v w2 ⟨rfl, ho2⟩)
    have hr2 := hr1.only ho2 (by simp)
    have hs2 := Sl.new w2 3 1 [.int .i64 10, .int .i64 S] 2 rfl
    conv => whnf
    have ho3 := (Only.refl [] w2).alloc (.cells ⟨[Value.int .i64 10, .int .i64 S]⟩ 3)
    refine (rover_does (k := 16) (zs := [10, S]) (hr2.only ho3 (by simp)) (by omega) b0.1 b0.2 (by omega) hs2 (fun x hx hm => ?_) (by intro s hs; simp at hs; omega) (by decide)).mono ?_
    · obtain rfl : x = w2.heap.size := by simpa using hx
      have := hr2.lt _ hm
      omega
    rintro v w4 ⟨rfl, hr4, ho4⟩
    have how4 : Only F1 wu w4 := (ho2.t0 ho3).zf ho4
    have b84 := b81.only how4 hF8
    conv => whnf
    refine ⟨_, Loads.all b84 (by kernel_rfl) (by rw [adC_len ha]; kernel_rfl), ?_⟩
    conv => whnf
    (refine (rword_does (i := 1) ha (by decide)).mono ?_; rintro v w5 ⟨rfl, ho5⟩)
    have hr5 := hr4.only ho5 (by simp)
    have hs5 := Sl.new w5 3 1 [.int .i64 10, .int .i64 S] 2 rfl
    conv => whnf
    have ho6 := (Only.refl [] w5).alloc (.cells ⟨[Value.int .i64 10, .int .i64 S]⟩ 3)
    refine (rover_does (k := 18) (zs := [10, S]) (hr5.only ho6 (by simp)) (by omega) b2.1 b2.2 (by omega) hs5 (fun x hx hm => ?_) (by intro s hs; simp at hs; omega) (by decide)).mono ?_
    · obtain rfl : x = w5.heap.size := by simpa using hx
      have := hr5.lt _ hm
      omega
    rintro v w7 ⟨rfl, hr7, ho7⟩
    have how7 : Only F1 wu w7 := (how4.f0 (ho5.t0 ho6)).ff ho7
    conv => whnf
    refine VJoin.go (by kernel_rfl) ?_
    conv => whnf
    refine VIf.dec (fun _ => ?_) (fun hne => absurd hp.1 hne)
    conv => whnf
    have hs7 := Sl.new w7 3 1 [.int .i64 S] 1 rfl
    have ho8 := (Only.refl [] w7).alloc (.cells ⟨[Value.int .i64 S]⟩ 3)
    refine (rover_does (k := head + 2) (zs := [S]) (hr7.only ho8 (by simp)) (by omega) hp.1 hp.2 (by omega) hs7 (fun x hx hm => ?_) (by intro s hs; simp at hs; omega) (by decide)).mono ?_
    · obtain rfl : x = w7.heap.size := by simpa using hx
      have := hr7.lt _ hm
      omega
    rintro v w9 ⟨rfl, hr9, ho9⟩
    have how9 : Only F1 wu w9 := (how7.f0 ho8).ff ho9
    have hr9b : Row w9 5 1 F1 A1 n c1 ((overL (overL (overL l 16 (wordL a.2 0) [10, S]) (16 + 2) (wordL a.2 2) [10, S]) (head + (16 - 12) / 2) p [S]).map u8) := hr9
    clear hr9
    generalize overL (overL (overL l 16 (wordL a.2 0) [10, S]) (16 + 2) (wordL a.2 2) [10, S]) (head + (16 - 12) / 2) p [S] = L3 at hr9b ⊢
    have hr9 := hr9b
    clear hr9b
    have hl3 := hr9.len8
    have fin : ∀ {w' : World} {z : List UInt8}, Row w' 5 1 F1 A1 n c1 (z.map u8) → Only F1 w9 w' → Own w w' 5 1 (z.map u8) (.slice A1 n c1) := fun hr ho =>
      ⟨A1, n, c1, F1, rfl, hr, (how1.t0 hou).trans (how9.ff ho) (fun x hx => .inr (hF1' x hx)), hF1'⟩
    conv => whnf
    refine VJoin.go (by kernel_rfl) ?_
    conv => whnf
    refine VIf.dec (fun hs0 => ?_) (fun hs0 => ?_)
    · obtain ⟨x, rfl⟩ : ∃ x : Nat, S = (x : Int) := ⟨S.toNat, by omega⟩
      conv => whnf
      refine (rget30_does (k := x) hr9.bs (by omega) (by omega)).mono ?_
      intro v w10 hvw
      have ho10 := hvw.2
      rw [hvw.1]
      clear hvw
      have hr10 := hr9.only ho10 (by simp)
      conv => whnf
      refine VIf.eq (fun hz => ?_) (fun hz => ?_)
      · conv => whnf
        refine (rput_does hr10 (by omega) (by decide) (by decide)).mono ?_
        rintro v w11 ⟨rfl, hr11, ho11⟩
        conv => whnf
        have e : turnFL L3 ((x : Nat) : Int) = setW L3 ((x : Nat) : Int).toNat 65535 := if_pos ⟨by omega, hz⟩
        refine (?_ : Own w w11 5 1 _ _)
        rw [e, Int.toNat_natCast]
        exact fin hr11 (ho10.zf ho11)
      · conv => whnf
        have e : turnFL L3 ((x : Nat) : Int) = L3 := if_neg (fun h => hz h.2)
        refine (?_ : Own w w10 5 1 _ _)
        rw [e]
        exact fin hr10 ho10.up
    · conv => whnf
      have e : turnFL L3 S = L3 := if_neg (fun h => hs0 h.1)
      refine (?_ : Own w w9 5 1 _ _)
      rw [e]
      exact fin hr9 (Only.refl _ _)
end Go.Proofs.YtofomopdaponbaaGreatDoor
