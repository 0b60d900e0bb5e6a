/-
  NatShares, walked.
-/
import Derived.Test.YtofomopdaponbaaGreatDoorZi
namespace Go.Proofs.YtofomopdaponbaaGreatDoor
open Go.RowKit
set_option linter.unusedVariables false
set_option linter.unusedSimpArgs false

/-- A packet of a script, as it came in. -/
structure Op30 where
  inn : Bool
  step : Int
  A : Option Addr
  c : Nat
  l : List UInt8
def encOp30 (o : Op30) : List Value := [.bool o.inn, .int .i64 o.step, .slice o.A o.l.length o.c]
theorem encOp30_len (o : Op30) : (encOp30 o).length = 3 := rfl
/-- Its bytes can be read. -/
structure OpOk (w : World) (o : Op30) : Prop where
  bs : ∃ G, Bs w G o.A o.l.length o.l ∧ ∀ k ∈ G, k < w.heap.size
  len : o.l.length ≤ 140737488355328
  step : -9223372036854775808 ≤ o.step ∧ o.step ≤ 9223372036854775807
theorem Sl.nmCell {w : World} {n b off i j : Nat} {G : List Nat} {z : List Nm} {v : Value} (h : Sl w 20 G (some ⟨b, off, none⟩) n (z.flatMap nmC)) (hi : i < z.length) (hj : j < 20) (hv : (nmC z[i])[j]? = some v) : w.cell? ⟨b, off + i * 20 + j, none⟩ = some v := by
  rw [Nat.add_assoc]
  exact h.ld (by rw [flat_get nmC_len z i j hi hj]; exact hv)
theorem Sl.nmAddr {w : World} {n b off i : Nat} {G : List Nat} {z : List Nm} (h : Sl w 20 G (some ⟨b, off, none⟩) n (z.flatMap nmC)) (hi : i < z.length) : Loads Tryz.prog 24 ⟨b, off + i * 20, none⟩ w (.agg ⟨adP z[i].addr⟩) :=
  Loads.many (by kernel_rfl) (by rw [adP_len]; kernel_rfl) fun j u hu => by
    have hj : j < 17 := by
      have := (List.getElem?_eq_some_iff.1 hu).1
      rwa [adP_len] at this
    refine h.nmCell hi (by omega) ?_
    unfold nmC
    rw [List.getElem?_append_left (by rw [adP_len]; exact hj)]
    exact hu
theorem and1023 {x : Int} : 0 ≤ andI .i64 x 1023 ∧ andI .i64 x 1023 ≤ 1023 := by
  have key : ∀ m : Nat, andI .i64 x ((2 ^ m - 1 : Nat) : Int) = andI .i64 x ((2 ^ m - 1 : Nat) : Int) := fun _ => rfl
  unfold andI
  have h1 : (BitVec.ofInt IntKind.i64.bits x &&& BitVec.ofInt IntKind.i64.bits 1023).toNat ≤ 1023 := by
    rw [BitVec.toNat_and]
    exact Nat.le_trans Nat.and_le_right (by decide)
  rw [wi64]
  omega
theorem and7 {x : Int} : 0 ≤ andI .i64 x 7 ∧ andI .i64 x 7 ≤ 7 := by
  unfold andI
  have h1 : (BitVec.ofInt IntKind.i64.bits x &&& BitVec.ofInt IntKind.i64.bits 7).toNat ≤ 7 := by
    rw [BitVec.toNat_and]
    exact Nat.le_trans Nat.and_le_right (by decide)
  rw [wi64]
  omega
theorem out_cf (s : NatS) (now : Int) (l : List UInt8) : (outS s now l).2.2.cf = s.cf := by
  have h := passes_cf s now
  unfold outS outR
  split
  · exact h
  split
  · exact h
  split
  · split
    · split <;> exact h
    · split
      · exact h
      · split <;> exact h
  · split
    · exact h
    · split <;> exact h
theorem came_cf (s : NatS) (now : Int) (l : List UInt8) : (cameS s now l).2.2.cf = s.cf := by
  have h := passes_cf s now
  unfold cameS cameR
  split
  · exact h
  split
  · exact h
  split
  · split
    · split <;> exact h
    · split
      · exact h
      · split <;> exact h
  · split
    · exact h
    · split <;> exact h
/-- The configuration with a field written over. -/
theorem cfC_last (a b v : Int) : (cfC (shC a b)).set 36 (.int .i64 v) = cfC (shC v b) := rfl
theorem cfC_maps (a b v : Int) : (cfC (shC a b)).set 38 (.int .i64 v) = cfC (shC a v) := rfl
theorem exC_sh : exC = shC 4001 8 := rfl
set_option maxHeartbeats 4000000 in
set_option maxRecDepth 100000 in
theorem natShares_does {W : World} {p m : Int} {A : Option Addr} {n c : Nat} {G : List Nat} {z : List Op30} (hs : Shp W) (hg : 1 < W.heap.size) (hz : Sl W 3 G A n (z.flatMap encOp30)) (hG : ∀ k ∈ G, k < W.heap.size) (hok : ∀ o ∈ z, OpOk W o) (hn : n ≤ 1048576) :
    Does Tryz.prog 4 [.int .i64 p, .int .i64 m, .slice A n c] W (fun v w' => v = .bool true ∧ Only [] W w') := by
  have hzl := hz.num encOp30_len (by decide)
  have hp := and7 (x := p)
  have hm := and7 (x := m)
  have e1 : IntKind.i64.wrap (4000 + andI .i64 p 7) = 4000 + andI .i64 p 7 := wi_id (by omega) (by omega)
  have e2 : IntKind.i64.wrap (1 + andI .i64 m 7) = 1 + andI .i64 m 7 := wi_id (by omega) (by omega)
  refine Does.enter (fn := Tryz.f4) (by kernel_rfl) rfl (by kernel_rfl) (by kernel_rfl) ?_
  conv => whnf
  refine (alive_does hs hg).mono ?_
  rintro v w1 ⟨rfl, ho1⟩
  conv => whnf
  refine example_does.mono ?_
  rintro v w2 ⟨rfl, ho2⟩
  conv => whnf
  refine vStore.fresh (cs := cfC exC) (by kernel_rfl) (by kernel_rfl) (one_cfC _) (fun w3 b7 ho3 hz3 => ?_)
  have hw3 := (ho1.t0 ho2).t0 ho3
  rw [exC_sh] at b7
  conv => whnf
  refine ⟨.int .i64 4000, Loads.one (by kernel_rfl) (b7.at (i := 35) rfl), ?_⟩
  conv => whnf
  rw [e1]
  refine vStore.one b7 (by kernel_rfl) rfl (i := 36) (u := .int .i64 4001) rfl (fun b7 ho4 => ?_)
  rw [cfC_last] at b7
  have hw4 : Only [] W _ := hw3.nw ho4 (ho1.t0 ho2).size
  conv => whnf
  rw [e2]
  refine vStore.one b7 (by kernel_rfl) rfl (i := 38) (u := .int .i64 8) rfl (fun b7 ho5 => ?_)
  rw [cfC_maps] at b7
  have hw5 : Only [] W _ := hw4.nw ho5 (ho1.t0 ho2).size
  have hq7 : W.heap.size ≤ w2.heap.size := (ho1.t0 ho2).size
  generalize hc1 : 4000 + andI .i64 p 7 = c1 at *
  generalize hc2 : 1 + andI .i64 m 7 = c2 at *
  have okc := shC_ok c1 c2
  have hmay := shC_may (a := c1) (b := c2) (by omega) (by omega) (by omega) (by omega)
  conv => whnf
  refine ⟨_, Loads.all b7 (by kernel_rfl) (by rw [cf_len okc]; kernel_rfl), ?_⟩
  conv => whnf
  refine (new_does okc).mono ?_
  rintro v w6 ⟨ho6, ⟨hmn, -⟩ | ⟨-, T, rfl, hT, hSt⟩⟩
  · rw [hmay] at hmn
    cases hmn
  have hw6 := hw5.t0 ho6
  have b76 := b7.only ho6 (by simp)
  have hsz5 : W.heap.size ≤ T := Nat.le_trans hw5.size hT
  have hq7T : w2.heap.size ≠ T := by
    have := b7.lt
    omega
  conv => whnf
  have hinv0 := new_inv okc hmay
  refine VLoop.inv (α := Nat × Int × NatS × List Nat) [(6, 7), (10, 19), (43, 209)] (fun t => [(10, .int .i64 t.2.1), (11, .int .i64 t.1)])
    (fun t w' => t.1 ≤ n ∧ 0 ≤ t.2.1 ∧ t.2.1 ≤ 1023 * t.1 ∧ Inv t.2.1 t.2.2.1 ∧ t.2.2.1.cf = shC c1 c2 ∧ St w' T t.2.2.1 t.2.2.2 ∧ (∀ k ∈ t.2.2.2, W.heap.size ≤ k ∧ k ≠ w2.heap.size) ∧ Blk w' w2.heap.size 26 ⟨cfC (shC c1 c2)⟩ ∧ Only [] W w') (fun t => n - t.1) (0, 0, newS (shC c1 c2), [T]) (by kernel_rfl)
    ⟨rfl, rfl, trivial⟩ ⟨Nat.zero_le _, Int.le_refl _, Int.le_refl _, hinv0, rfl, hSt, fun k hk => by
      obtain rfl : k = T := by simpa using hk
      exact ⟨hsz5, fun e => hq7T e.symm⟩, b76, hw6⟩ ?_
  clear b7 b76 hSt hinv0 hw6
  rintro ⟨i, now, s, F⟩ wr j ⟨hi, hnow0, hnow1, hinv, hscf, hSt, hF, b7, ho⟩
  dsimp only at hi hnow0 hnow1 hinv hscf hSt hF b7
  have ok1 := hinv.ok
  have hsr := hs.o ho
  have hgF : 1 ∉ F := fun h => by have := (hF _ h).1; omega
  conv => whnf
  refine VIf.dec (fun ht => ?_) (fun ht => ?_)
  rotate_left
  · conv => whnf
    exact ⟨rfl, ho⟩
  have ht : (i : Int) < (n : Int) := ht
  have hi2 : i < z.length := by omega
  have hzr := hz.o ho
  obtain ⟨b, off, rfl, -⟩ := hzr.some_ (by omega)
  have hb3 : ∀ (k : Nat) (v : Value), k < 3 → (encOp30 z[i])[k]? = some v → wr.cell? ⟨b, off + i * 3 + k, none⟩ = some v := fun k v hk hv => by
    rw [Nat.add_assoc]
    exact hzr.ld (by rw [flat_get encOp30_len z i k hi2 hk]; exact hv)
  have hop := hok z[i] (List.getElem_mem hi2)
  obtain ⟨GB, hGB, hGBl⟩ := hop.bs
  have hstep := and1023 (x := z[i].step)
  generalize z[i] = o at *
  obtain ⟨at_, hat⟩ : ∃ a, now + andI .i64 o.step 1023 = a := ⟨_, rfl⟩
  have eat : IntKind.i64.wrap (now + andI .i64 o.step 1023) = at_ := by
    rw [← hat]
    exact wi_id (by omega) (by omega)
  conv => whnf
  refine ⟨_, _, rfl, i, off + i * 3, rfl, by omega, rfl, ?_⟩
  conv => whnf
  refine ⟨.int .i64 o.step, Loads.one (by kernel_rfl) (hb3 1 _ (by decide) rfl), ?_⟩
  conv => whnf
  rw [eat]
  have hat1 : now ≤ at_ := by omega
  have hat2 : at_ ≤ 1023 * ((i + 1 : Nat) : Int) := by omega
  have hat3 : at_ ≤ 1099511627776 := by omega
  refine VJoin.cut (α := NatS × List Nat) [(57, 80)] (fun _ => []) (fun t w' => Inv at_ t.1 ∧ t.1.cf = shC c1 c2 ∧ St w' T t.1 t.2 ∧ (∀ k ∈ t.2, W.heap.size ≤ k ∧ k ≠ w2.heap.size) ∧ Blk w' w2.heap.size 26 ⟨cfC (shC c1 c2)⟩ ∧ Only [] W w') (by kernel_rfl) ?_ ?_
  · conv => whnf
    refine ⟨_, _, rfl, i, off + i * 3, rfl, by omega, rfl, ?_⟩
    conv => whnf
    refine ⟨.bool o.inn, Loads.one (by kernel_rfl) (hb3 0 _ (by decide) rfl), ?_⟩
    conv => whnf
    have cont : ∀ (r : Int × List UInt8 × NatS) (v : Value) (wo w' : World), Inv at_ r.2.2 → r.2.2.cf = shC c1 c2 → Only [] wr wo → Ends wo w' T F v r →
        ∃ t : NatS × List Nat, Inv at_ t.1 ∧ t.1.cf = shC c1 c2 ∧ St w' T t.1 t.2 ∧ (∀ k ∈ t.2, W.heap.size ≤ k ∧ k ≠ w2.heap.size) ∧ Blk w' w2.heap.size 26 ⟨cfC (shC c1 c2)⟩ ∧ Only [] W w' := by
      rintro r v wo w' k1 k2 ho2 ⟨X, cX, FX, F', -, -, hSt', ho', hF', -⟩
      have hwo := ho.t0 ho2
      refine ⟨(r.2.2, F'), k1, k2, hSt', fun k hk => ?_, (b7.only ho2 (by simp)).only ho' (fun hm => (hF _ hm).2 rfl), hwo.trans ho' (fun k hk => .inr (hF k hk).1)⟩
      rcases hF' k hk with h | h
      · exact hF k h
      · have h2 := hwo.size
        have h3 := b7.lt
        have h4 := ho2.size
        exact ⟨by omega, by omega⟩
    refine VIf.of (b := o.inn) (fun hin => ?_) (fun hin => ?_)
    · conv => whnf
      refine ⟨_, _, rfl, i, off + i * 3, rfl, by omega, rfl, ?_⟩
      conv => whnf
      refine ⟨.slice o.A o.l.length o.c, Loads.one (by kernel_rfl) (hb3 2 _ (by decide) rfl), ?_⟩
      conv => whnf
      refine (own_does (hGB.o ho) hop.len).mono ?_
      rintro v wo ⟨X, nX, cX, FX, rfl, hrX, hoX, hFX⟩
      obtain rfl := (Row.bs hrX).len
      have hXF : ∀ k ∈ FX, k ∉ F := fun k hk hm => by
        have := hFX k hk
        have := hSt.lt k hm
        omega
      conv => whnf
      refine (in_does (hSt.o hoX) ok1 (Row.bs hrX) hXF (hsr.o hoX) hgF hop.len hrX.le.1 (by have := hrX.le.2; unfold maxLen at this; exact this)).mono ?_
      intro v w8 hE
      obtain ⟨t, k1, k2, k3, k4, k5, k6⟩ := cont _ v wo w8 (hinv.cameS hat1 hat3 o.l) ((came_cf _ _ _).trans hscf) hoX hE
      conv => whnf
      exact ⟨t, trivial, k1, k2, k3, k4, k5, k6⟩
    · conv => whnf
      refine ⟨_, _, rfl, i, off + i * 3, rfl, by omega, rfl, ?_⟩
      conv => whnf
      refine ⟨.slice o.A o.l.length o.c, Loads.one (by kernel_rfl) (hb3 2 _ (by decide) rfl), ?_⟩
      conv => whnf
      refine (own_does (hGB.o ho) hop.len).mono ?_
      rintro v wo ⟨X, nX, cX, FX, rfl, hrX, hoX, hFX⟩
      obtain rfl := (Row.bs hrX).len
      have hXF : ∀ k ∈ FX, k ∉ F := fun k hk hm => by
        have := hFX k hk
        have := hSt.lt k hm
        omega
      conv => whnf
      refine (out_does (hSt.o hoX) ok1 (Row.bs hrX) hXF (hsr.o hoX) hgF hop.len hrX.le.1 (by have := hrX.le.2; unfold maxLen at this; exact this)).mono ?_
      intro v w8 hE
      obtain ⟨t, k1, k2, k3, k4, k5, k6⟩ := cont _ v wo w8 (hinv.outS hat1 hat3 o.l) ((out_cf _ _ _).trans hscf) hoX hE
      conv => whnf
      exact ⟨t, trivial, k1, k2, k3, k4, k5, k6⟩
  clear hinv ok1 hSt hF b7 ho hsr hgF hzr hb3
  rintro ⟨s, F⟩ wr jj ⟨hinv, hscf, hSt, hF, b7, ho⟩
  dsimp only at hinv hscf hSt hF b7
  have ok1 := hinv.ok
  conv => whnf
  have hml : (s.maps.length : Int) ≤ c2 := by have := ok1.nmaps; rw [hscf] at this; exact this
  refine (maps_small hSt ok1 (by omega)).mono ?_
  rintro v wm ⟨z', Am, nm, cm, Gm, rfl, hperm, hsort, hrow, hom, hGm⟩
  have hzl' : z'.length = nm := hrow.sl.num nmC_len (by decide)
  have hpl := hperm.length_eq
  have b7m := b7.only hom (by simp)
  have hom' := ho.t0 hom
  have hfact : ∀ k (hk : k < z'.length), 4000 ≤ z'[k].out ∧ z'[k].out ≤ c1 ∧ z'[k].addr.1 = 4 ∧ z'[k].addr.2.getD 0 0 = 10 ∧ 0 ≤ z'[k].used ∧ z'[k].used ≤ at_ ∧ at_ - z'[k].used < 100 ∧ 0 ≤ z'[k].port ∧ z'[k].port ≤ 65535 ∧ okAd z'[k].addr := fun k hk => by
    have hmem : z'[k] ∈ s.maps := hperm.mem_iff.1 (List.getElem_mem hk)
    have h1 := hinv.each _ hmem
    have h2 := ok1.maps _ hmem
    rw [hscf] at h1
    obtain ⟨e1, e2⟩ := inside10 rfl rfl h2 h1.2.2.1
    exact ⟨h1.1, h1.2.1, e1, e2, h1.2.2.2.1, h1.2.2.2.2.1, h1.2.2.2.2.2.1, h1.2.2.2.2.2.2.1, h1.2.2.2.2.2.2.2, h2⟩
  have hclimb : ∀ i j (hj : j < z'.length) (hij : i < j), (z'[i]'(by omega)).out < z'[j].out := fun i j hj hij => climbs hperm hsort hinv.outs hj hij
  have happ : ∀ i j (hj : j < z'.length) (hij : i < j), ¬ ((z'[i]'(by omega)).addr = z'[j].addr ∧ (z'[i]'(by omega)).port = z'[j].port) := fun i j hj hij => apart_ends hperm hinv.ends hj hij
  conv => whnf
  refine ⟨.int .i64 c2, Loads.one (by kernel_rfl) (b7m.at (i := 38) rfl), ?_⟩
  conv => whnf
  refine VIf.dec (fun h1 => ?_) (fun _ => ?_)
  · have h1 : (nm : Int) > c2 := h1
    omega
  conv => whnf
  refine VLoop.inv (α := Nat) [(6, 7), (14, 17), (88, 186)] (fun k => [(14, .int .i64 k)]) (fun k w' => k ≤ nm ∧ Only [] wm w') (fun k => nm - k) 0 (by kernel_rfl) ⟨rfl, trivial⟩ ⟨Nat.zero_le _, Only.refl _ _⟩ ?_
  rintro k wk jk ⟨hk, hok'⟩
  have hrowk := hrow.only hok' (by simp)
  have b7k := b7m.only hok' (by simp)
  have homk := hom'.t0 hok'
  conv => whnf
  refine VIf.dec (fun htk => ?_) (fun htk => ?_)
  rotate_left
  · -- behind the list: the notes
    have hStk := (hSt.o hom).o hok'
    conv => whnf
    refine (notes_does hStk ok1).mono ?_
    rintro v wn ⟨rfl, hon⟩
    have b7n := b7k.only hon (by simp)
    have hno : (s.outs.length : Int) ≤ 4 := by have := ok1.nouts; rw [hscf] at this; exact this
    have hni : (s.ins.length : Int) ≤ 4 := by have := ok1.nins; rw [hscf] at this; exact this
    conv => whnf
    refine ⟨.int .i64 4, Loads.one (by kernel_rfl) (b7n.at (i := 39) rfl), ?_⟩
    conv => whnf
    refine VIf.dec (fun h1 => ?_) (fun _ => ?_)
    · have h1 : (s.outs.length : Int) > 4 := h1
      omega
    conv => whnf
    refine ⟨.int .i64 4, Loads.one (by kernel_rfl) (b7n.at (i := 39) rfl), ?_⟩
    conv => whnf
    refine VIf.dec (fun h1 => ?_) (fun _ => ?_)
    · have h1 : (s.ins.length : Int) > 4 := h1
      omega
    conv => whnf
    have ei : IntKind.i64.wrap ((i : Int) + 1) = ((i + 1 : Nat) : Int) := by rw [wi64]; omega
    exact ⟨(i + 1, at_, s, F), ⟨rfl, congrArg (Value.int .i64) ei, trivial⟩, ⟨by show i + 1 ≤ n; omega, by show 0 ≤ at_; omega, hat2, hinv, hscf, hStk.o hon, hF, b7n, homk.t0 hon⟩, by show n - (i + 1) < n - i; omega⟩
  have htk : (k : Int) < (nm : Int) := htk
  have hk2 : k < z'.length := by omega
  obtain ⟨f1, f2, f3, f4, f5, f6, f7, f8, f9, f10⟩ := hfact k hk2
  obtain ⟨bm, om, rfl, -⟩ := hrowk.sl.some_ (by omega)
  conv => whnf
  refine ⟨_, _, rfl, k, om + k * 20, rfl, by omega, rfl, ?_⟩
  conv => whnf
  refine ⟨.agg ⟨nmC z'[k]⟩, hrowk.sl.elem nmC_len hk2 (by kernel_rfl) (by kernel_rfl), ?_⟩
  conv => whnf
  refine vStore.fresh (cs := nmC z'[k]) (by rw [nmC_len]; kernel_rfl) (by rw [nmC_len]; kernel_rfl) (one_nmC _) (fun wx b15 hox _ => ?_)
  have hokx := hok'.t0 hox
  have b7x := b7k.only hox (by simp)
  have hrowx := hrowk.only hox (by simp)
  have b15v : ∀ j v, (nmC z'[k])[j]? = some v → wx.cell? ⟨wk.heap.size, j, none⟩ = some v := fun j v h => b15.at h
  have a0 : (nmC z'[k])[0]? = some (.int .i64 z'[k].addr.1) := rfl
  have a1 : (nmC z'[k])[1]? = some (u8 10) := by
    rw [← f4]
    have h16 := f10.2.2
    unfold nmC
    rw [adP_id f10, List.getElem?_append_left (by rw [adC_len f10]; decide)]
    show (z'[k].addr.2.map u8)[0]? = _
    rw [List.getElem?_map, getD_some (by omega)]
    rfl
  conv => whnf
  have eus : IntKind.i64.wrap (at_ - z'[k].used) = at_ - z'[k].used := wi_id (by omega) (by omega)
  refine VDraw.abs fun N0 hN => ?_
  refine VDraw.q (by kernel_rfl) (by kernel_rfl) ?_
  conv => whnf
  refine ⟨.int .i64 z'[k].out, fun w' hw' => Loads.one (by kernel_rfl) ((b15.only hw' (by simp)).at (i := 18) (nmC_out _)), ?_⟩
  conv => whnf
  refine ⟨.int .i64 4000, fun w' hw' => Loads.one (by kernel_rfl) ((b7x.only hw' (by simp)).at (i := 35) rfl), ?_⟩
  conv => whnf
  refine VIf.dec (fun h1 => ?_) (fun _ => ?_)
  · have h1 : z'[k].out < 4000 := h1
    omega
  conv => whnf
  refine ⟨.int .i64 z'[k].out, fun w' hw' => Loads.one (by kernel_rfl) ((b15.only hw' (by simp)).at (i := 18) (nmC_out _)), ?_⟩
  conv => whnf
  refine ⟨.int .i64 c1, fun w' hw' => Loads.one (by kernel_rfl) ((b7x.only hw' (by simp)).at (i := 36) rfl), ?_⟩
  conv => whnf
  refine VIf.dec (fun h1 => ?_) (fun _ => ?_)
  · have h1 : z'[k].out > c1 := h1
    omega
  conv => whnf
  refine VIf.dec (fun hk0 => ?_) (fun hk0 => ?_)
  · have hk0 : (k : Int) > 0 := hk0
    have ek : IntKind.i64.wrap ((k : Int) - 1) = ((k - 1 : Nat) : Int) := by rw [wi64]; omega
    have hcl := hclimb (k - 1) k hk2 (by omega)
    conv => whnf
    rw [ek]
    refine ⟨_, _, rfl, k - 1, om + (k - 1) * 20, rfl, by omega, rfl, ?_⟩
    conv => whnf
    refine ⟨.int .i64 (z'[k - 1]'(by omega)).out, fun w' hw' => Loads.one (by kernel_rfl) ((hrowx.sl.o hw').nmCell (show k - 1 < z'.length by omega) (by decide) (nmC_out _)), ?_⟩
    conv => whnf
    refine ⟨.int .i64 z'[k].out, fun w' hw' => Loads.one (by kernel_rfl) ((b15.only hw' (by simp)).at (i := 18) (nmC_out _)), ?_⟩
    conv => whnf
    refine VIf.dec (fun h1 => ?_) (fun _ => ?_)
    · have h1 : (z'[k - 1]'(by omega)).out ≥ z'[k].out := h1
      omega
    conv => whnf
    refine ⟨.int .i64 z'[k].addr.1, fun w' hw' => Loads.one (by kernel_rfl) ((b15.only hw' (by simp)).at (i := 0) (a0)), ?_⟩
    conv => whnf
    refine VIf.ne (fun h1 => (h1 f3).elim) (fun _ => ?_)
    conv => whnf
    refine ⟨0, 1, rfl, by decide, rfl, ?_⟩
    conv => whnf
    refine ⟨u8 10, fun w' hw' => Loads.one (by kernel_rfl) ((b15.only hw' (by simp)).at (i := 1) (a1)), ?_⟩
    conv => whnf
    refine ⟨.int .i64 z'[k].used, fun w' hw' => Loads.one (by kernel_rfl) ((b15.only hw' (by simp)).at (i := 19) (nm_tail z'[k] 2)), ?_⟩
    conv => whnf
    refine VIf.dec (fun h1 => ?_) (fun _ => ?_)
    · have h1 : z'[k].used > at_ := h1
      omega
    conv => whnf
    refine ⟨.int .i64 z'[k].used, fun w' hw' => Loads.one (by kernel_rfl) ((b15.only hw' (by simp)).at (i := 19) (nm_tail z'[k] 2)), ?_⟩
    conv => whnf
    rw [eus]
    refine ⟨.int .i64 100, fun w' hw' => Loads.one (by kernel_rfl) ((b7x.only hw' (by simp)).at (i := 37) rfl), ?_⟩
    conv => whnf
    refine VIf.dec (fun h1 => ?_) (fun _ => ?_)
    · have h1 : at_ - z'[k].used ≥ 100 := h1
      omega
    conv => whnf
    refine ⟨.int .i64 z'[k].port, fun w' hw' => Loads.one (by kernel_rfl) ((b15.only hw' (by simp)).at (i := 17) (nm_tail z'[k] 0)), ?_⟩
    conv => whnf
    refine VIf.dec (fun h1 => ?_) (fun _ => ?_)
    · have h1 : z'[k].port < 0 := h1
      omega
    conv => whnf
    refine ⟨.int .i64 z'[k].port, fun w' hw' => Loads.one (by kernel_rfl) ((b15.only hw' (by simp)).at (i := 17) (nm_tail z'[k] 0)), ?_⟩
    conv => whnf
    intro w8 ho8
    refine hN _ _ ?_
    conv => whnf
    refine VIf.dec (fun h1 => ?_) (fun _ => ?_)
    · have h1 : z'[k].port > 65535 := h1
      omega
    have okk := f10
    have bseg : ∀ w', Only [] wx w' → Loads Tryz.prog 24 ⟨wk.heap.size, 0, none⟩ w' (.agg ⟨adC z'[k].addr⟩) := fun w' ho' => by
      have hb : Blk w' wk.heap.size 48 ⟨[] ++ (adC z'[k].addr ++ [.int .i64 z'[k].port, .int .i64 z'[k].out, .int .i64 z'[k].used])⟩ := by
        rw [← adP_id okk]
        exact b15.only ho' (by simp)
      exact Loads.seg hb rfl (by kernel_rfl) (by rw [adC_len okk]; kernel_rfl)
    conv => whnf
    refine VLoop.inv (α := Nat) [(6, 7), (16, 17), (163, 186)] (fun j => [(16, .int .i64 j)]) (fun j w' => j ≤ k ∧ Only [] wx w') (fun j => k - j) 0 (by kernel_rfl) ⟨rfl, trivial⟩ ⟨Nat.zero_le _, ho8⟩ ?_
    rintro jn wj jj' ⟨hj, hoj⟩
    conv => whnf
    refine VIf.dec (fun htj => ?_) (fun htj => ?_)
    rotate_left
    · conv => whnf
      have ek1 : IntKind.i64.wrap ((k : Int) + 1) = ((k + 1 : Nat) : Int) := by rw [wi64]; omega
      exact ⟨k + 1, ⟨congrArg (Value.int .i64) ek1, trivial⟩, ⟨by omega, hokx.t0 hoj⟩, by omega⟩
    have htj : (jn : Int) < (k : Int) := htj
    have hj2 : jn < z'.length := by omega
    obtain ⟨-, -, -, -, -, -, -, -, -, okj⟩ := hfact jn hj2
    have hap := happ jn k hk2 (by omega)
    have ej1 : IntKind.i64.wrap ((jn : Int) + 1) = ((jn + 1 : Nat) : Int) := by rw [wi64]; omega
    conv => whnf
    refine VDraw.abs fun N2 hN2 => ?_
    refine VDraw.q (by kernel_rfl) (by kernel_rfl) ?_
    conv => whnf
    refine ⟨_, _, rfl, jn, om + jn * 20, rfl, by omega, rfl, ?_⟩
    conv => whnf
    refine ⟨.agg ⟨adC z'[jn].addr⟩, fun w' hw' => by rw [← adP_id okj]; exact (hrowx.sl.o (hoj.t0 hw')).nmAddr hj2, ?_⟩
    conv => whnf
    refine ⟨.agg ⟨adC z'[k].addr⟩, fun w' hw' => bseg w' (hoj.t0 hw'), ?_⟩
    conv => whnf
    refine ⟨_, eql_ad okj okk _ _, ?_⟩
    conv => whnf
    refine VIf.of (b := decide (z'[jn].addr = z'[k].addr)) (fun ha => ?_) (fun ha => ?_)
    · conv => whnf
      refine ⟨_, _, rfl, jn, om + jn * 20, rfl, by omega, rfl, ?_⟩
      conv => whnf
      refine ⟨.int .i64 z'[jn].port, fun w' hw' => Loads.one (by kernel_rfl) ((hrowx.sl.o (hoj.t0 hw')).nmCell hj2 (by decide) (nm_tail z'[jn] 0)), ?_⟩
      conv => whnf
      refine ⟨.int .i64 z'[k].port, fun w' hw' => Loads.one (by kernel_rfl) ((b15.only (hoj.t0 hw') (by simp)).at (i := 17) (nm_tail z'[k] 0)), ?_⟩
      conv => whnf
      intro w9 ho9
      refine hN2 _ _ ?_
      conv => whnf
      refine VIf.eq (fun e => (hap ⟨of_decide_eq_true ha, e⟩).elim) (fun _ => ?_)
      conv => whnf
      exact ⟨jn + 1, ⟨congrArg (Value.int .i64) ej1, trivial⟩, ⟨by omega, hoj.t0 ho9⟩, by omega⟩
    · conv => whnf
      intro w9 ho9
      refine hN2 _ _ ?_
      conv => whnf
      exact ⟨jn + 1, ⟨congrArg (Value.int .i64) ej1, trivial⟩, ⟨by omega, hoj.t0 ho9⟩, by omega⟩
  conv => whnf
  refine ⟨.int .i64 z'[k].addr.1, fun w' hw' => Loads.one (by kernel_rfl) ((b15.only hw' (by simp)).at (i := 0) (a0)), ?_⟩
  conv => whnf
  refine VIf.ne (fun h1 => (h1 f3).elim) (fun _ => ?_)
  conv => whnf
  refine ⟨0, 1, rfl, by decide, rfl, ?_⟩
  conv => whnf
  refine ⟨u8 10, fun w' hw' => Loads.one (by kernel_rfl) ((b15.only hw' (by simp)).at (i := 1) (a1)), ?_⟩
  conv => whnf
  refine ⟨.int .i64 z'[k].used, fun w' hw' => Loads.one (by kernel_rfl) ((b15.only hw' (by simp)).at (i := 19) (nm_tail z'[k] 2)), ?_⟩
  conv => whnf
  refine VIf.dec (fun h1 => ?_) (fun _ => ?_)
  · have h1 : z'[k].used > at_ := h1
    omega
  conv => whnf
  refine ⟨.int .i64 z'[k].used, fun w' hw' => Loads.one (by kernel_rfl) ((b15.only hw' (by simp)).at (i := 19) (nm_tail z'[k] 2)), ?_⟩
  conv => whnf
  rw [eus]
  refine ⟨.int .i64 100, fun w' hw' => Loads.one (by kernel_rfl) ((b7x.only hw' (by simp)).at (i := 37) rfl), ?_⟩
  conv => whnf
  refine VIf.dec (fun h1 => ?_) (fun _ => ?_)
  · have h1 : at_ - z'[k].used ≥ 100 := h1
    omega
  conv => whnf
  refine ⟨.int .i64 z'[k].port, fun w' hw' => Loads.one (by kernel_rfl) ((b15.only hw' (by simp)).at (i := 17) (nm_tail z'[k] 0)), ?_⟩
  conv => whnf
  refine VIf.dec (fun h1 => ?_) (fun _ => ?_)
  · have h1 : z'[k].port < 0 := h1
    omega
  conv => whnf
  refine ⟨.int .i64 z'[k].port, fun w' hw' => Loads.one (by kernel_rfl) ((b15.only hw' (by simp)).at (i := 17) (nm_tail z'[k] 0)), ?_⟩
  conv => whnf
  intro w8 ho8
  refine hN _ _ ?_
  conv => whnf
  refine VIf.dec (fun h1 => ?_) (fun _ => ?_)
  · have h1 : z'[k].port > 65535 := h1
    omega
  have okk := f10
  have bseg : ∀ w', Only [] wx w' → Loads Tryz.prog 24 ⟨wk.heap.size, 0, none⟩ w' (.agg ⟨adC z'[k].addr⟩) := fun w' ho' => by
    have hb : Blk w' wk.heap.size 48 ⟨[] ++ (adC z'[k].addr ++ [.int .i64 z'[k].port, .int .i64 z'[k].out, .int .i64 z'[k].used])⟩ := by
      rw [← adP_id okk]
      exact b15.only ho' (by simp)
    exact Loads.seg hb rfl (by kernel_rfl) (by rw [adC_len okk]; kernel_rfl)
  conv => whnf
  refine VLoop.inv (α := Nat) [(6, 7), (16, 17), (163, 186)] (fun j => [(16, .int .i64 j)]) (fun j w' => j ≤ k ∧ Only [] wx w') (fun j => k - j) 0 (by kernel_rfl) ⟨rfl, trivial⟩ ⟨Nat.zero_le _, ho8⟩ ?_
  rintro jn wj jj' ⟨hj, hoj⟩
  conv => whnf
  refine VIf.dec (fun htj => ?_) (fun htj => ?_)
  rotate_left
  · conv => whnf
    have ek1 : IntKind.i64.wrap ((k : Int) + 1) = ((k + 1 : Nat) : Int) := by rw [wi64]; omega
    exact ⟨k + 1, ⟨congrArg (Value.int .i64) ek1, trivial⟩, ⟨by omega, hokx.t0 hoj⟩, by omega⟩
  have htj : (jn : Int) < (k : Int) := htj
  have hj2 : jn < z'.length := by omega
  obtain ⟨-, -, -, -, -, -, -, -, -, okj⟩ := hfact jn hj2
  have hap := happ jn k hk2 (by omega)
  have ej1 : IntKind.i64.wrap ((jn : Int) + 1) = ((jn + 1 : Nat) : Int) := by rw [wi64]; omega
  conv => whnf
  refine VDraw.abs fun N2 hN2 => ?_
  refine VDraw.q (by kernel_rfl) (by kernel_rfl) ?_
  conv => whnf
  refine ⟨_, _, rfl, jn, om + jn * 20, rfl, by omega, rfl, ?_⟩
  conv => whnf
  refine ⟨.agg ⟨adC z'[jn].addr⟩, fun w' hw' => by rw [← adP_id okj]; exact (hrowx.sl.o (hoj.t0 hw')).nmAddr hj2, ?_⟩
  conv => whnf
  refine ⟨.agg ⟨adC z'[k].addr⟩, fun w' hw' => bseg w' (hoj.t0 hw'), ?_⟩
  conv => whnf
  refine ⟨_, eql_ad okj okk _ _, ?_⟩
  conv => whnf
  refine VIf.of (b := decide (z'[jn].addr = z'[k].addr)) (fun ha => ?_) (fun ha => ?_)
  · conv => whnf
    refine ⟨_, _, rfl, jn, om + jn * 20, rfl, by omega, rfl, ?_⟩
    conv => whnf
    refine ⟨.int .i64 z'[jn].port, fun w' hw' => Loads.one (by kernel_rfl) ((hrowx.sl.o (hoj.t0 hw')).nmCell hj2 (by decide) (nm_tail z'[jn] 0)), ?_⟩
    conv => whnf
    refine ⟨.int .i64 z'[k].port, fun w' hw' => Loads.one (by kernel_rfl) ((b15.only (hoj.t0 hw') (by simp)).at (i := 17) (nm_tail z'[k] 0)), ?_⟩
    conv => whnf
    intro w9 ho9
    refine hN2 _ _ ?_
    conv => whnf
    refine VIf.eq (fun e => (hap ⟨of_decide_eq_true ha, e⟩).elim) (fun _ => ?_)
    conv => whnf
    exact ⟨jn + 1, ⟨congrArg (Value.int .i64) ej1, trivial⟩, ⟨by omega, hoj.t0 ho9⟩, by omega⟩
  · conv => whnf
    intro w9 ho9
    refine hN2 _ _ ?_
    conv => whnf
    exact ⟨jn + 1, ⟨congrArg (Value.int .i64) ej1, trivial⟩, ⟨by omega, hoj.t0 ho9⟩, by omega⟩
end Go.Proofs.YtofomopdaponbaaGreatDoor
