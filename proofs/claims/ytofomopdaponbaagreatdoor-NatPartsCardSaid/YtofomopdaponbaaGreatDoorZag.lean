/-
  Fragments put in order by Off are the pieces in order.
-/
import Derived.Test.YtofomopdaponbaaGreatDoorZae
import Derived.Test.YtofomopdaponbaaGreatDoorZaf
import Derived.Test.YtofomopdaponbaaGreatDoorZad
import Derived.Test.YtofomopdaponbaaGreatDoorYNmz
namespace Go.Proofs.YtofomopdaponbaaGreatDoor
set_option linter.unusedVariables false
set_option linter.unusedSimpArgs false

/-- The pieces of D, in order. -/
structure Chain (P : List Pk) (D : List UInt8) : Prop where
  off : ∀ i (h : i < P.length), P[i].off = (((P.take i).flatMap (·.data)).length : Int)
  ne : ∀ p ∈ P, 0 < p.data.length
  all : P.flatMap (·.data) = D
theorem flat_take_le {P : List Pk} {i j : Nat} (h : i ≤ j) : ((P.take i).flatMap (·.data)).length ≤ ((P.take j).flatMap (·.data)).length := by
  have : P.take i = (P.take j).take i := by rw [List.take_take, Nat.min_eq_left h]
  rw [this]
  generalize P.take j = Q
  conv => rhs; rw [← List.take_append_drop i Q]
  rw [List.flatMap_append, List.length_append]
  exact Nat.le_add_right _ _
theorem flat_take_succ {P : List Pk} {i : Nat} (h : i < P.length) : (P.take (i + 1)).flatMap (·.data) = (P.take i).flatMap (·.data) ++ P[i].data := by
  rw [List.take_succ_eq_append_getElem h, List.flatMap_append, List.flatMap_singleton]
theorem Chain.lt {P : List Pk} {D : List UInt8} (h : Chain P D) {i j : Nat} (hij : i < j) (hj : j < P.length) : (P[i]'(by omega)).off < P[j].off := by
  rw [h.off i (by omega), h.off j hj]
  have h1 := flat_take_le (P := P) (show i + 1 ≤ j from hij)
  rw [flat_take_succ (by omega), List.length_append] at h1
  have := h.ne _ (List.getElem_mem (show i < P.length by omega))
  omega
theorem Chain.le {P : List Pk} {D : List UInt8} (h : Chain P D) {i : Nat} (hi : i < P.length) : P[i].off + P[i].data.length ≤ D.length := by
  have h1 := flat_take_le (P := P) (show i + 1 ≤ P.length from hi)
  rw [flat_take_succ hi, List.length_append, List.take_length, h.all] at h1
  rw [h.off i hi]
  omega
theorem Chain.mem_le {P : List Pk} {D : List UInt8} (h : Chain P D) {p : Pk} (hp : p ∈ P) : 0 ≤ p.off ∧ p.off < D.length ∧ p.off + p.data.length ≤ D.length := by
  obtain ⟨i, hi, rfl⟩ := List.getElem_of_mem hp
  have h1 := h.le hi
  have h2 := h.ne _ (List.getElem_mem hi)
  have h3 := h.off i hi
  omega
/-- Two lists in order by a key that no two of them share, one a reordering of the other, are one. -/
theorem sorted_eq {α : Type} (f : α → Int) : ∀ (l m : List α), l.Perm m → l.Pairwise (fun a b => f a ≤ f b) → m.Pairwise (fun a b => f a < f b) → l = m
  | [], m, hp, _, _ => hp.nil_eq
  | a :: l, [], hp, _, _ => by simpa using hp.length_eq
  | a :: l, b :: m, hp, hl, hm => by
    have ha := hp.mem_iff.1 (List.mem_cons_self : a ∈ a :: l)
    have hb := hp.mem_iff.2 (List.mem_cons_self : b ∈ b :: m)
    rw [List.pairwise_cons] at hl hm
    have e : a = b := by
      rcases List.mem_cons.1 ha with h | h
      · exact h
      · have h1 := hm.1 a h
        rcases List.mem_cons.1 hb with h' | h'
        · exact h'.symm
        · have := hl.1 b h'
          omega
    subst e
    rw [sorted_eq f l m (hp.cons_inv) hl.2 hm.2]
theorem Chain.sorted {P : List Pk} {D : List UInt8} (h : Chain P D) {z : List Pl} (hp : (z.map (·.p)).Perm P) (hs : ∀ a b (hb : b < z.length) (hab : a < b), (z[a]'(by omega)).p.off ≤ z[b].p.off) : z.map (·.p) = P := by
  refine sorted_eq (·.off) _ _ hp ?_ ?_
  · rw [List.pairwise_iff_getElem]
    intro i j hi hj hij
    simp only [List.length_map] at hi hj
    simpa using hs i j hj hij
  · rw [List.pairwise_iff_getElem]
    intro i j hi hj hij
    exact h.lt hij hj
end Go.Proofs.YtofomopdaponbaaGreatDoor
/-
  slices.Clone and slices.SortFunc of packets, by Off.
-/
namespace Go.Proofs.YtofomopdaponbaaGreatDoor
open Go.RowKit
set_option linter.unusedVariables false
set_option linter.unusedSimpArgs false

theorem pkP_tail (x : Pl) (j : Nat) : (pkP x)[37 + j]? = (pkT x.p x.O x.D)[j]? := by
  unfold pkP
  rw [List.getElem?_append_right (by simp [pkH]; omega), List.getElem?_append_right (by simp [pkH, adP_len]; omega), List.getElem?_append_right (by simp [pkH, adP_len]; omega)]
  rw [show 37 + j - (pkH x.p).length - (adP x.p.src).length - (adP x.p.dst).length = j by simp [pkH, adP_len]; omega]
theorem pkP_off (x : Pl) : (pkP x)[43]? = some (.int .i64 x.p.off) := (pkP_tail x 6).trans rfl
set_option maxRecDepth 100000 in
theorem byOffK {w : World} {a b : Pl} : Does Tryz.prog 91 [.agg ⟨pkP a⟩, .agg ⟨pkP b⟩] w (fun v w' => v = .int .i64 (cmpI a.p.off b.p.off) ∧ ∃ q os', w' = Go.Sort.grow (w.drewN q) os') := by
  have b1 := (Blk.new w 56 ⟨pkP a⟩).alloc (.cells ⟨pkP b⟩ 56)
  have b2 := Blk.new (w.alloc (.cells ⟨pkP a⟩ 56)) 56 ⟨pkP b⟩
  refine Does.enter (fn := Tryz.f91) (by kernel_rfl) rfl (by kernel_rfl) (by kernel_rfl) ?_
  conv => whnf
  refine ⟨_, Loads.one (by kernel_rfl) (b1.at (pkP_off a)), ?_⟩
  conv => whnf
  refine ⟨_, Loads.one (by kernel_rfl) (b2.at (pkP_off b)), ?_⟩
  conv => whnf
  refine compare_does.mono ?_
  rintro v w1 ⟨rfl, rfl⟩
  conv => whnf
  exact ⟨rfl, 0, #[.cells ⟨pkP a⟩ 56, .cells ⟨pkP b⟩ 56], by
    show (w.alloc _).alloc _ = Go.Sort.grow w _
    rw [Go.Sort.alloc_eq_grow, Go.Sort.alloc_eq_grow, Go.Sort.grow_grow]
    rfl⟩
theorem lt_off (x y : Pl) : Go.Proofs.ltOf (fun a b : Pl => cmpI a.p.off b.p.off) x y = decide (x.p.off < y.p.off) := cmpI_neg _ _
theorem swo_off : Go.Sort.SWO (Go.Proofs.ltOf (fun a b : Pl => cmpI a.p.off b.p.off)) where
  irrefl x := by rw [lt_off]; simp
  trans x y z h1 h2 := by rw [lt_off] at *; simp at *; omega
  ntrans x y z h1 h2 := by rw [lt_off] at *; simp at *; omega
set_option maxRecDepth 100000 in
theorem sortPk_does {w : World} {F : List Nat} {A : Option Addr} {n c : Nat} {z : List Pl} (h : Row w 56 46 F A n c (z.flatMap pkP)) (h0 : 0 < n) (hn : n ≤ 4294967296) :
    Does Tryz.prog 90 [.slice A n c, .func (.func 91) #[] #[]] w (fun v w' => v = .tuple ⟨[]⟩ ∧ ∃ z' : List Pl, z'.Perm z ∧ (∀ a b (hb : b < z'.length) (hab : a < b), (z'[a]'(by omega)).p.off ≤ z'[b].p.off) ∧ Row w' 56 46 F A n c (z'.flatMap pkP) ∧ Only F w w') := by
  have hl : z.length = n := h.sl.num pkP_len (by decide)
  obtain ⟨g, cur, rfl, rfl, -⟩ := h.blk (by have := h.le.1; omega)
  haveI : Inhabited Pl := ⟨⟨zeroP, (none, 0), (none, 0)⟩⟩
  have hs := sortK_does (f := 90) sortPkLaid rfl Tryz.isAgg56 Tryz.sizeOf56 pkP_len (fun x v hv => isOne_cell (one_pkP x v hv)) swo_off (by kernel_rfl) (enters_of Tryz.func91 (by kernel_rfl) rfl) (fun _ _ _ => byOffK) h hl (by omega)
  refine hs.mono ?_
  rintro v w1 ⟨rfl, z', hp, hso, hr, ho⟩
  refine ⟨rfl, z', hp, ?_, hr, ho⟩
  intro a b hb hab
  have h2 := hso a b hb hab
  have h3 : decide (cmpI z'[b].p.off (z'[a]'(by omega)).p.off < 0) = decide (z'[b].p.off < (z'[a]'(by omega)).p.off) := cmpI_neg _ _
  have h4 : ¬ z'[b].p.off < (z'[a]'(by omega)).p.off := by
    intro h5
    rw [decide_eq_true h5] at h3
    exact h2 (of_decide_eq_true h3)
  omega
set_option maxRecDepth 100000 in
theorem clonePk_does {w : World} {G : List Nat} {A : Option Addr} {n c : Nat} {z : List Pl} (h : Sl w 46 G A n (z.flatMap pkP)) (hn : n ≤ 4294967296) :
    Does Tryz.prog 89 [.slice A n c] w (fun v w' => Own w w' 56 46 (z.flatMap pkP) v) := by
  refine Does.enter (fn := Tryz.f89) (by kernel_rfl) rfl (by kernel_rfl) (by kernel_rfl) ?_
  cases A with
  | none =>
    obtain ⟨rfl, hz⟩ := h.none_
    conv => whnf
    rw [hz]
    exact Own.nil _ _ _
  | some a =>
    conv => whnf
    have h2 := h.o ((Only.refl [] w).alloc (.cells ⟨[]⟩ 56))
    refine vFall.append 56 46 152 rfl (by kernel_rfl) rfl (Row.nil _ _ _ _) rfl h2 (one_pkPs z) (by omega) (by omega) ?_
    intro A' c' F' w' hr ho hF
    conv => whnf
    refine ⟨A', 0 + n, c', F', rfl, by simpa using hr, ((Only.refl [] w).alloc _).t0 ho, fun k hk => ?_⟩
    rcases hF k hk with h | h
    · cases h
    · simp at h; omega
end Go.Proofs.YtofomopdaponbaaGreatDoor
/-
  recut.Join of fragments of version 4 that fit: the walk.
-/
namespace Go.Proofs.YtofomopdaponbaaGreatDoor
open Go.RowKit
set_option linter.unusedVariables false
set_option linter.unusedSimpArgs false

theorem Sl.fldP {w : World} {n b off i j : Nat} {G : List Nat} {z : List Pl} {v : Value} (h : Sl w 46 G (some ⟨b, off, none⟩) n (z.flatMap pkP)) (hi : i < z.length) (hj : j < 46) (hv : (pkP z[i])[j]? = some v) : w.cell? ⟨b, off + i * 46 + j, none⟩ = some v := by
  rw [Nat.add_assoc]
  exact h.ld ((flat_get pkP_len z i j hi hj).trans hv)
theorem pkP_dat (x : Pl) : (pkP x)[45]? = some (.slice x.D.1 x.p.data.length x.D.2) := (pkP_tail x 8).trans rfl
set_option maxHeartbeats 4000000 in
set_option maxRecDepth 100000 in
theorem join_does {w : World} {G : List Nat} {A : Option Addr} {n c e : Nat} {z : List Pl} {K : Ky} {P : List Pk} {D : List UInt8} {W : Pk}
    (hr : Sl w 46 G A n (z.flatMap pkP)) (hz : z.length = n) (hn : n ≤ 65536) (ok : ∀ x ∈ z, PlOk w 0 [] x) (fr : Frags z K e) (okK : okKy K) (he : e < n) (hs : Shp w)
    (hp : (z.map (·.p)).Perm P) (ch : Chain P D) (hD : D.length ≤ 65535) (hlast : (z[e]'(by omega)).p.off + (z[e]'(by omega)).p.data.length = D.length)
    (hW : ∀ h : 0 < P.length, W = { P[0] with more := false, data := D }) (hWh : headP W ≠ 0) :
    Does Tryz.prog 36 [.slice A n c] w (fun v w' => ∃ O2 D2, v = .tuple ⟨[.agg ⟨pkC W O2 D2⟩, .int .i64 0]⟩ ∧ PlOk w' w.heap.size [] ⟨W, O2, D2⟩ ∧ Only [] w w') := by
  have hPl : P.length = n := by have := hp.length_eq; simpa [hz] using this.symm
  have hmem : ∀ x ∈ z, 0 ≤ x.p.off ∧ x.p.off < D.length ∧ x.p.off + x.p.data.length ≤ D.length := fun x hx => ch.mem_le (hp.mem_iff.1 (List.mem_map_of_mem hx))
  have hA := (Only.refl [] w).alloc (.cells ⟨pkC zeroP (none, 0) (none, 0)⟩ 56)
  have hb := Blk.new w 56 ⟨pkC zeroP (none, 0) (none, 0)⟩
  obtain ⟨b, off, rfl, -⟩ := hr.2 (by omega)
  have hel : ∀ (w' : World) (i : Nat) (hi : i < z.length), Only [] w w' → Loads Tryz.prog 56 ⟨b, off + i * 46, none⟩ w' (.agg ⟨pkC z[i].p z[i].O z[i].D⟩) := fun w' i hi hw' => by
    rw [← pkP_id (ok _ (List.getElem_mem hi)).ok]
    exact Sl.elem (hr.o hw') pkP_len hi (by kernel_rfl) (by kernel_rfl)
  refine Does.enter (fn := Tryz.f36) (by kernel_rfl) rfl (by kernel_rfl) (by kernel_rfl) ?_
  conv => whnf
  refine (rend_does (hr.o hA) hz hn (fun x hx => (ok x hx).o hA) fr okK he (hs.o hA)).mono ?_
  rintro v w1 ⟨rfl, ho1⟩
  have hw1 := hA.t0 ho1
  have hb1 := hb.only ho1 (by simp)
  conv => whnf
  have he2 : e < z.length := by omega
  refine VJoin.cut (α := Unit) [(6, 7), (25, 39)] (fun _ => [(6, .int .i64 D.length)]) (fun _ w' => Only [] w1 w') (by kernel_rfl) ?_ ?_
  · conv => whnf
    refine VDraw.abs fun N0 hN => ?_
    refine VDraw.q (by kernel_rfl) (by kernel_rfl) ?_
    conv => whnf
    refine ⟨_, _, rfl, e, off + e * 46, rfl, by omega, rfl, ?_⟩
    conv => whnf
    refine ⟨_, fun w' hw' => Loads.one (by kernel_rfl) (Sl.fldP (hr.o (hw1.t0 hw')) he2 (by decide) (pkP_off _)), ?_⟩
    conv => whnf
    refine ⟨_, _, rfl, e, off + e * 46, rfl, by omega, rfl, ?_⟩
    conv => whnf
    refine ⟨_, fun w' hw' => Loads.one (by kernel_rfl) (Sl.fldP (hr.o (hw1.t0 hw')) he2 (by decide) (pkP_dat _)), ?_⟩
    conv => whnf
    intro w2 ho2
    refine hN _ _ ?_
    conv => whnf
    refine ⟨(), ⟨congrArg (Value.int IntKind.i64) ?_, trivial⟩, ho2⟩
    rw [hlast, wi64]
    omega
  rintro ⟨⟩ w2 j2 ho2
  have hw2 := hw1.t0 ho2
  have hb2 := hb1.only ho2 (by simp)
  clear ho2 hb1 hw1 ho1
  conv => whnf
  refine VLoop.inv (α := Nat) [(3, 4), (7, 9), (41, 67)] (fun i => [(41, .int .i64 i)]) (fun i w' => Only [] w2 w' ∧ i ≤ n) (fun i => n - i) 0 (by kernel_rfl) ⟨rfl, trivial⟩ ⟨Only.refl _ _, Nat.zero_le _⟩ ?_
  rintro i wr j ⟨ho, hi⟩
  conv => whnf
  refine VIf.dec (fun ht => ?_) (fun ht => ?_)
  · have hi2 : i < z.length := by omega
    have hxi : z[i] ∈ z := List.getElem_mem hi2
    have oki := (ok _ hxi).o (hw2.t0 ho)
    have hml := hmem _ hxi
    have hle := hel wr i hi2 (hw2.t0 ho)
    conv => whnf
    refine ⟨_, _, rfl, i, off + i * 46, rfl, by omega, rfl, ?_⟩
    conv => whnf
    refine ⟨_, hle, ?_⟩
    generalize hX : z[i] = X at *
    conv => whnf
    refine vStore.all (cs := pkC X.p X.O X.D) (Blk.new wr 56 _) (by rw [pk_len oki.ok]; kernel_rfl) (by rw [pk_len oki.ok]; rfl) (one_pkC _ _ _) (fun w3 hb3 ho3 hz3 => ?_)
    have hA3 : Only [] wr w3 := ((Only.refl [] wr).alloc _).trans ho3 (fun k hk => .inr (by simp at hk; omega))
    conv => whnf
    have eW : IntKind.i64.wrap ((i : Int) + 1) = ((i + 1 : Nat) : Int) := by rw [wi64]; omega
    by_cases hie : i = e
    · rw [show ((i : Int) != (e : Int)) = false by simp [hie]]
      conv => whnf
      exact ⟨i + 1, ⟨congrArg (Value.int IntKind.i64) eW, trivial⟩, ⟨ho.t0 hA3, by omega⟩, by omega⟩
    · rw [show ((i : Int) != (e : Int)) = true by simp; omega]
      conv => whnf
      (refine ⟨_, Loads.one (by kernel_rfl) (hb3.pkOff oki.ok), ?_⟩; conv => whnf)
      rw [decide_eq_false (show ¬ X.p.off ≥ (D.length : Int) by omega)]
      conv => whnf
      (refine ⟨_, Loads.one (by kernel_rfl) (hb3.pkOff oki.ok), ?_⟩; conv => whnf)
      (refine ⟨_, Loads.one (by kernel_rfl) (hb3.pkData oki.ok), ?_⟩; conv => whnf)
      rw [decide_eq_false (show ¬ IntKind.i64.wrap (X.p.off + (X.p.data.length : Int)) > (D.length : Int) by rw [wi64]; omega)]
      conv => whnf
      exact ⟨i + 1, ⟨congrArg (Value.int IntKind.i64) eW, trivial⟩, ⟨ho.t0 hA3, by omega⟩, by omega⟩
  have hwr := hw2.t0 ho
  have hbr := hb2.only ho (by simp)
  clear hb2 hw2 ho
  conv => whnf
  refine (clonePk_does (hr.o hwr) (by omega)).mono ?_
  rintro v w4 ⟨A4, n4, c4, F4, rfl, hr4, ho4, hF4⟩
  have hn4 : n4 = n := by have := hr4.sl.num pkP_len (by decide); omega
  subst hn4
  conv => whnf
  refine (sortPk_does hr4 (by omega) (by omega)).mono ?_
  rintro v w5 ⟨rfl, z', hpz, hsz, hr5, ho5⟩
  have hzP : z'.map (·.p) = P := ch.sorted ((hpz.map _).trans hp) hsz
  have ho45 : Only [] wr w5 := ho4.trans ho5 (fun k hk => .inr (hF4 k hk))
  have hw5 := hwr.t0 ho45
  have hb5 := hbr.only ho45 (by simp)
  have hzl : z'.length = n4 := by have := congrArg List.length hzP; simpa [hPl] using this
  have hzi : ∀ i (h : i < z'.length), z'[i].p = P[i]'(by omega) := fun i h => by
    have : (z'.map (·.p))[i]? = P[i]? := by rw [hzP]
    simpa [h, show i < P.length by omega] using this
  have okz : ∀ x ∈ z', PlOk w5 0 [] x := fun x hx => (ok x (hpz.mem_iff.1 hx)).o hw5
  clear hbr hwr ho5 ho4 hr4
  conv => whnf
  obtain ⟨b4, off4, rfl, -⟩ := hr5.sl.2 (by omega)
  have hel5 : ∀ (w' : World) (i : Nat) (hi : i < z'.length), Only [] w5 w' → Loads Tryz.prog 56 ⟨b4, off4 + i * 46, none⟩ w' (.agg ⟨pkC z'[i].p z'[i].O z'[i].D⟩) := fun w' i hi hw' => by
    rw [← pkP_id (okz _ (List.getElem_mem hi)).ok]
    exact Sl.elem (hr5.sl.o hw') pkP_len hi (by kernel_rfl) (by kernel_rfl)
  refine VLoop.inv (α := Nat) [(3, 4), (10, 12), (13, 14), (75, 98)] (fun i => [(10, .int .i64 (((P.take i).flatMap (·.data)).length : Nat)), (11, .bool false), (75, .int .i64 i)]) (fun i w' => Only [] w5 w' ∧ i ≤ n4) (fun i => n4 - i) 0 (by kernel_rfl) ⟨rfl, rfl, rfl, trivial⟩ ⟨Only.refl _ _, Nat.zero_le _⟩ ?_
  rintro i wr j ⟨ho, hi⟩
  conv => whnf
  refine VIf.dec (fun ht => ?_) (fun ht => ?_)
  · have hi2 : i < z'.length := by omega
    have hiP : i < P.length := by omega
    have oki := (okz _ (List.getElem_mem hi2)).o ho
    have hle := hel5 wr i hi2 ho
    have hX := hzi i hi2
    have ho1 := ch.off i hiP
    have hm1 := ch.le hiP
    have hsu := flat_take_succ hiP
    generalize z'[i] = X at *
    rw [← hX] at ho1 hm1 hsu
    conv => whnf
    refine ⟨_, _, rfl, i, off4 + i * 46, rfl, by omega, rfl, ?_⟩
    conv => whnf
    refine ⟨_, hle, ?_⟩
    conv => whnf
    refine vStore.all (cs := pkC X.p X.O X.D) (Blk.new wr 56 _) (by rw [pk_len oki.ok]; kernel_rfl) (by rw [pk_len oki.ok]; rfl) (one_pkC _ _ _) (fun w3 hb3 ho3 hz3 => ?_)
    have hA3 : Only [] wr w3 := ((Only.refl [] wr).alloc _).trans ho3 (fun k hk => .inr (by simp at hk; omega))
    conv => whnf
    (refine ⟨_, Loads.one (by kernel_rfl) (hb3.pkOff oki.ok), ?_⟩; conv => whnf)
    refine VIf.dec (fun h => absurd h (by omega)) (fun _ => ?_)
    conv => whnf
    (refine ⟨_, Loads.one (by kernel_rfl) (hb3.pkOff oki.ok), ?_⟩; conv => whnf)
    rw [decide_eq_false (show ¬ X.p.off > (((P.take i).flatMap (·.data)).length : Int) by omega)]
    conv => whnf
    (refine ⟨_, Loads.one (by kernel_rfl) (hb3.pkOff oki.ok), ?_⟩; conv => whnf)
    (refine ⟨_, Loads.one (by kernel_rfl) (hb3.pkData oki.ok), ?_⟩; conv => whnf)
    refine ⟨i + 1, ⟨congrArg (Value.int IntKind.i64) ?_, rfl, congrArg (Value.int IntKind.i64) ?_, trivial⟩, ⟨ho.t0 hA3, by omega⟩, by omega⟩
    · rw [hsu, List.length_append, wi64]; omega
    · rw [wi64]; omega
  have hin : i = n4 := by omega
  rw [hin, show P.take n4 = P by rw [← hPl, List.take_length], ch.all] at *
  have hr6 := hr5.only ho (by simp)
  have hw6 := hw5.t0 ho
  have hb6 := hb5.only ho (by simp)
  have hel6 : ∀ (w' : World) (i : Nat) (hi : i < z'.length), Only [] wr w' → Loads Tryz.prog 56 ⟨b4, off4 + i * 46, none⟩ w' (.agg ⟨pkC z'[i].p z'[i].O z'[i].D⟩) := fun w' i hi hw' => hel5 w' i hi (ho.t0 hw')
  have okz6 : ∀ x ∈ z', PlOk wr 0 [] x := fun x hx => (okz x hx).o ho
  clear hb5 hw5 ho hel5 okz hr5
  conv => whnf
  rw [show ((D.length : Int) != (D.length : Int)) = false by simp]
  conv => whnf
  have h0z : 0 < z'.length := by omega
  have h0P : 0 < P.length := by omega
  have hX0 := hzi 0 h0z
  have ok0 := okz6 _ (List.getElem_mem h0z)
  have hv0 : (z'[0]).p.v = 4 := fr.v _ (hpz.mem_iff.1 (List.getElem_mem h0z))
  have hW0 := hW h0P
  rw [← hX0] at hW0
  have hle0 := hel6 wr 0 h0z (Only.refl _ _)
  generalize hXe : z'[0] = X at *
  refine ⟨_, _, rfl, 0, off4 + 0 * 46, rfl, by omega, rfl, ?_⟩
  conv => whnf
  refine ⟨_, hle0, ?_⟩
  conv => whnf
  refine (rown_does ok0.pks).mono ?_
  rintro v w7 ⟨O2, D2, rfl, okn, ho7⟩
  conv => whnf
  refine vStore.all (cs := pkC X.p O2 D2) (Blk.new w7 56 _) (by rw [pk_len ok0.ok]; kernel_rfl) (by rw [pk_len ok0.ok]; rfl) (one_pkC _ _ _) (fun w8 hb8 ho8 hz8 => ?_)
  have hA8 : Only [] w7 w8 := ((Only.refl [] w7).alloc _).trans ho8 (fun k hk => .inr (by simp at hk; omega))
  have hw8 : Only [] wr w8 := ho7.t0 hA8
  have hg8 : w7.heap.size < w8.heap.size := hb8.lt
  have hg7 : wr.heap.size ≤ w7.heap.size := ho7.size
  obtain ⟨GO, hGO, hGOl⟩ := okn.opts
  have hGO8 := hGO.o hA8
  have hoc := okn.oc
  have hol := okn.ol
  dsimp only at hGO hGOl hoc hol hGO8
  conv => whnf
  refine vStore.one (i := 45) hb8 (by kernel_rfl) rfl ((pk_tail ok0.ok 8).trans rfl) (fun hb9 ho9 => ?_)
  rw [pk_put_data ok0.ok [] none 0 0 rfl] at hb9
  have hw9 : Only [] wr _ := hw8.trans ho9 (fun k hk => .inr (by simp at hk; omega))
  have hGO9 := hGO8.only ho9 (fun k hk => by have := (hGOl k hk).2.2; simp only [List.mem_singleton]; omega)
  have hz9 := ho9.size
  generalize w8.setCell _ _ = w9 at hb9 ho9 hw9 hGO9 hz9 ⊢
  conv => whnf
  refine VLoop.inv (α := Nat × Option Addr × Nat) [(16, 17), (112, 123)] (fun | (i, B, d) => [(112, .int .i64 i)])
    (fun | (i, B, d) => fun w' => ∃ F, Row w' 5 1 F B ((P.take i).flatMap (·.data)).length d (((P.take i).flatMap (·.data)).map u8) ∧ Blk w' w7.heap.size 56 ⟨pkC { X.p with data := (P.take i).flatMap (·.data) } O2 (B, d)⟩ ∧ Only [] wr w' ∧ (∀ k ∈ F, w7.heap.size < k) ∧ Bs w' GO O2.1 X.p.opts.length X.p.opts ∧ i ≤ n4)
    (fun | (i, B, d) => n4 - i) (0, none, 0) (by kernel_rfl) ⟨rfl, trivial⟩ ⟨[], Row.nil _ _ _ _, hb9, hw9, by simp, hGO9, Nat.zero_le _⟩ ?_
  rintro ⟨i, B, d⟩ wx j ⟨F, hrF, hbx, hox, hF, hGx, hi⟩
  conv => whnf
  refine VIf.dec (fun ht => ?_) (fun ht => ?_)
  · have hi2 : i < z'.length := by omega
    have hiP : i < P.length := by omega
    have oki := (okz6 _ (List.getElem_mem hi2)).o hox
    have hle := hel6 wx i hi2 hox
    have hXi := hzi i hi2
    have hpos := ch.ne _ (List.getElem_mem hiP)
    have hm1 := flat_take_le (P := P) (show i + 1 ≤ P.length from hiP)
    have hsu := flat_take_succ hiP
    rw [List.take_length, ch.all] at hm1
    generalize z'[i] = Y at *
    rw [← hXi] at hsu hpos
    rw [hsu, List.length_append] at hm1
    conv => whnf
    refine ⟨_, _, rfl, i, off4 + i * 46, rfl, by omega, rfl, ?_⟩
    conv => whnf
    refine ⟨_, hle, ?_⟩
    conv => whnf
    refine vStore.all (cs := pkC Y.p Y.O Y.D) (Blk.new wx 56 _) (by rw [pk_len oki.ok]; kernel_rfl) (by rw [pk_len oki.ok]; rfl) (one_pkC _ _ _) (fun wy hby hoy hzy => ?_)
    have hAy : Only [] wx wy := ((Only.refl [] wx).alloc _).trans hoy (fun k hk => .inr (by simp at hk; omega))
    have okx : okPk { X.p with data := (P.take i).flatMap (·.data) } := ⟨ok0.ok.src, ok0.ok.dst, ok0.ok.off⟩
    have hbxy := hbx.only hAy (by simp)
    have hrFy := hrF.only hAy (by simp)
    conv => whnf
    have hld : wy.cell? ⟨w7.heap.size, 45, none⟩ = some (.slice B ((P.take i).flatMap (·.data)).length d) := hbxy.pkData okx
    (refine ⟨_, Loads.one (by kernel_rfl) (hld), ?_⟩; conv => whnf)
    (refine ⟨_, Loads.one (by kernel_rfl) (hby.pkData oki.ok), ?_⟩; conv => whnf)
    obtain ⟨GY, hGY, -⟩ := (oki.o hAy).data
    refine vFall.append 5 1 1 rfl (by kernel_rfl) rfl hrFy rfl hGY (one_u8 _) (by omega) (by omega) ?_
    intro B2 d2 F2 wz hrz hoz hFz
    conv => whnf
    have hFF : ∀ k ∈ F2, w7.heap.size < k := fun k hk => by
      rcases hFz k hk with h | h
      · exact hF k h
      · have := hbxy.lt; omega
    have hg14 : w7.heap.size ∉ F := hrFy.ne_blk hbxy (by decide)
    have hg14' : w7.heap.size ∉ F2 := fun hm => absurd (hFF _ hm) (Nat.lt_irrefl _)
    have hbz := hbxy.only hoz hg14
    have hGxz := (hGx.o hAy).only hoz (fun k hk hm => by have := hF k hm; have := (hGOl k hk).2.2; omega)
    have hoxz : Only [] wr wz := (hox.t0 hAy).trans hoz (fun k hk => .inr (by have := hF k hk; omega))
    refine vStore.one (i := 45) hbz (by kernel_rfl) rfl ((pk_tail okx 8).trans rfl) (fun hbu hou => ?_)
    rw [pk_put_data okx ((P.take (i + 1)).flatMap (·.data)) B2 _ d2 (by rw [hsu, List.length_append])] at hbu
    have hrU := hrz.only hou (fun k hk => by have := hFF k hk; simp only [List.mem_singleton]; omega)
    have hGU := hGxz.only hou (fun k hk => by have := (hGOl k hk).2.2; simp only [List.mem_singleton]; omega)
    have hoU := hoxz.trans hou (fun k hk => .inr (by simp at hk; omega))
    generalize wz.setCell _ _ = wu at hbu hrU hGU hoU ⊢
    conv => whnf
    refine ⟨(i + 1, B2, d2), ⟨congrArg (Value.int IntKind.i64) (show IntKind.i64.wrap ((i : Int) + 1) = ((i + 1 : Nat) : Int) by rw [wi64]; omega), trivial⟩, ⟨F2, ?_, hbu, hoU, hFF, hGU, by omega⟩, by show n4 - (i + 1) < n4 - i; omega⟩
    rw [hsu, List.length_append, List.map_append]
    exact hrU
  have hin : i = n4 := by omega
  rw [hin, show P.take n4 = P by rw [← hPl, List.take_length], ch.all] at hrF hbx
  have okx : okPk { X.p with data := D } := ⟨ok0.ok.src, ok0.ok.dst, ok0.ok.off⟩
  have okW : okPk W := by rw [hW0]; exact ⟨ok0.ok.src, ok0.ok.dst, ok0.ok.off⟩
  have hbR := hb6.only hox (by simp)
  have hgR : w.heap.size < wr.heap.size := hb6.lt
  conv => whnf
  refine vStore.one (i := 41) hbx (by kernel_rfl) rfl ((pk_tail okx 4).trans rfl) (fun hbu hou => ?_)
  have eW : (pkC { X.p with data := D } O2 (B, d)).set 41 (.bool false) = pkC W O2 (B, d) := by
    rw [hW0]
    exact pk_put_more okx false
  rw [eW] at hbu
  have hbRu := hbR.only hou (by simp only [List.mem_singleton]; omega)
  have hrU := hrF.only hou (fun k hk => by have := hF k hk; simp only [List.mem_singleton]; omega)
  have hGU := hGx.only hou (fun k hk => by have := (hGOl k hk).2.2; simp only [List.mem_singleton]; omega)
  have hoU := hox.trans hou (fun k hk => .inr (by simp at hk; omega))
  generalize wx.setCell _ _ = wu at hbu hbRu hrU hGU hoU ⊢
  have hVW : W.v = 4 := by rw [hW0]; exact hv0
  have hOW : W.opts = X.p.opts := by rw [hW0]
  have hDW : W.data = D := by rw [hW0]
  conv => whnf
  refine VJoin.go (by kernel_rfl) ?_
  conv => whnf
  (refine ⟨_, Loads.one (by kernel_rfl) (hbu.pkV), ?_⟩; conv => whnf)
  rw [hVW]
  conv => whnf
  (refine ⟨_, hbu.pkAll okW, ?_⟩; conv => whnf)
  have hWp : PlOk wu (w.heap.size + 1) [] ⟨W, O2, (B, d)⟩ := ⟨okW, ⟨GO, by dsimp only; rw [hOW]; exact hGU, fun k hk => by have := hGOl k hk; have := hbu.lt; exact ⟨by omega, by simp, by omega⟩⟩, ⟨F, by dsimp only; rw [hDW]; exact Row.bs hrU, fun k hk => by have := hF k hk; exact ⟨by omega, by simp, hrU.lt k hk⟩⟩, by dsimp only; rw [hOW]; exact hoc,
    by dsimp only; rw [hDW]; have h2 := hrU.le.2; unfold maxLen at h2; exact ⟨hrU.le.1, h2⟩, by dsimp only; rw [hOW]; exact hol, by dsimp only; rw [hDW]; omega⟩
  have hwu := hw6.t0 hoU
  refine (rhead_does hWp.pks (hs.o hwu) hVW).mono ?_
  rintro v wv ⟨rfl, hov⟩
  have hbv := hbu.only hov (by simp)
  have hbRv := hbRu.only hov (by simp)
  have hwv := hwu.t0 hov
  conv => whnf
  refine VIf.eq (fun h => absurd h hWh) (fun _ => ?_)
  conv => whnf
  (refine ⟨_, hbv.pkAll okW, ?_⟩; conv => whnf)
  refine vStore.all (cs := pkC W O2 (B, d)) hbRv (by rw [pk_len okW]; kernel_rfl) (by rw [pk_len okW, pk_len (zeroP_ok w 0).ok]) (one_pkC _ _ _) (fun wz hbz hoz hzz => ?_)
  conv => whnf
  (refine ⟨_, hbz.pkAll okW, ?_⟩; conv => whnf)
  refine ⟨O2, (B, d), rfl, ((hWp.o hov).only hoz (fun k _ hk => by simp only [List.mem_singleton]; omega)).sub (Nat.le_succ _) (by simp), hwv.trans hoz (fun k hk => .inr (by simp at hk; omega))⟩

end Go.Proofs.YtofomopdaponbaaGreatDoor
