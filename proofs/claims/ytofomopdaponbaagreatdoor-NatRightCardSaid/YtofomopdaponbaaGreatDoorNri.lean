/-
  NatRight, walked.
-/
import Derived.Test.YtofomopdaponbaaGreatDoorNwd
import Derived.Test.YtofomopdaponbaaGreatDoorNrr
namespace Go.Proofs.YtofomopdaponbaaGreatDoor
open Go.RowKit
set_option linter.unusedVariables false
set_option linter.unusedSimpArgs false

/-- A packet's way through, at time 0. -/
def goR (inn : Bool) (s : NatS) (l : List UInt8) : Int × List UInt8 × NatS := if inn = true then cameS s 0 l else outS s 0 l
structure GoOk (inn : Bool) (s : NatS) (l : List UInt8) (r : Int × List UInt8 × NatS) : Prop where
  fail : r.1 ≠ 0 → r.2.1 = []
  err : parseE l ≠ 0 → r.1 = parseE l
  right : parseE l = 0 → r.1 = 0 → Right s.cf inn l r.2.1 ∧ (inn = true → (parseP l).dst = s.cf.outside)
  inv : Inv 0 r.2.2
  ins : InsIn r.2.2
  cf : r.2.2.cf = s.cf
theorem go_ok {s : NatS} (hI : Inv 0 s) (hi : InsIn s) (hx : ExCf s.cf) (inn : Bool) (l : List UInt8) : GoOk inn s l (goR inn s l) := by
  obtain ⟨hp1, hp2⟩ := hI.passes (now' := 0) (Int.le_refl _) (by decide)
  have hpi := hi.passes 0
  have hcf := passes_cf s 0
  have he : beginE s 0 l = parseE l := if_pos hp1
  cases inn with
  | true =>
    have hinv := hI.cameS (now' := 0) (Int.le_refl _) (by decide) l
    have hcf2 := came_cf s 0 l
    have hE : cameS s 0 l = if parseE l ≠ 0 then (parseE l, [], (passesS s 0).2) else cameR (passesS s 0).2 (parseP l) l := by
      unfold cameS
      rw [he]
    refine ⟨?_, ?_, ?_, hinv, ?_, hcf2⟩
    · show (cameS s 0 l).1 ≠ 0 → (cameS s 0 l).2.1 = []
      rw [hE]
      split
      · exact fun _ => rfl
      · exact came_fail
    · intro h
      show (cameS s 0 l).1 = parseE l
      rw [hE, if_pos h]
    · intro h
      show (cameS s 0 l).1 = 0 → Right s.cf true l (cameS s 0 l).2.1 ∧ _
      rw [hE, if_neg (fun hn => hn h)]
      intro h0
      have := came_right hp2 hpi (by rw [hcf]; exact hx) h h0
      rw [hcf] at this
      exact ⟨this.1, fun _ => this.2⟩
    · show InsIn (cameS s 0 l).2.2
      rw [hE]
      split
      · exact hpi
      · exact hpi.came hp2 _ _
  | false =>
    have hinv := hI.outS (now' := 0) (Int.le_refl _) (by decide) l
    have hcf2 := out_cf s 0 l
    have hE : outS s 0 l = if parseE l ≠ 0 then (parseE l, [], (passesS s 0).2) else outR (passesS s 0).2 (parseP l) l := by
      unfold outS
      rw [he]
    refine ⟨?_, ?_, ?_, hinv, ?_, hcf2⟩
    · show (outS s 0 l).1 ≠ 0 → (outS s 0 l).2.1 = []
      rw [hE]
      split
      · exact fun _ => rfl
      · exact out_fail
    · intro h
      show (outS s 0 l).1 = parseE l
      rw [hE, if_pos h]
    · intro h
      show (outS s 0 l).1 = 0 → Right s.cf false l (outS s 0 l).2.1 ∧ _
      rw [hE, if_neg (fun hn => hn h)]
      intro h0
      have := out_right (by rw [hcf]; exact hx) h h0
      rw [hcf] at this
      exact ⟨this, fun h => absurd h (by decide)⟩
    · show InsIn (outS s 0 l).2.2
      rw [hE]
      split
      · exact hpi
      · exact hpi.out _ _
theorem wide_ex (p : Int) : ExCf (wideC p) := ⟨rfl, rfl, rfl⟩
theorem pk_dst0 {p : Pk} {O D : At} (ok : okPk p) : (pkC p O D)[21]? = some (u8 (p.dst.2.getD 0 0)) := by
  have e1 := adC_len ok.src
  have h16 := ok.dst.2.2
  unfold pkC
  rw [List.getElem?_append_right (by simp [pkH]), List.getElem?_append_right (by simp [pkH, e1]), List.getElem?_append_left (by simp [pkH, e1, adC_len ok.dst])]
  simp only [pkH, e1, List.length_cons, List.length_nil]
  show (p.dst.2.map u8)[0]? = _
  rw [List.getElem?_map, getD_some (by omega)]
  rfl
theorem differs_q {w : World} {k h : Nat} {inn : Bool} {proto off : Int} (hk : k ≤ 2 ^ 48) (hh : h ≤ 2 ^ 47) :
    Does Tryz.prog 22 [.int .i64 k, .int .i64 h, .bool inn, .int .i64 proto, .int .i64 off] w (fun v w' => v = .bool (differsB k h inn proto off) ∧ Only [] w w') :=
  (differs_does hk hh).mono fun v w' h => ⟨h.1, h.2 ▸ Only.refl _ _⟩
theorem vc.yes {P : Program} {n : Nat} {c : Operand} {a b : Code} {N : Fr → World → Prop} {X : Exit → Fr → World → Prop} {ρ : Fr} {w : World} (e : ev ρ c = .bool true) (h : vc P n a N X ρ w) : vc P n (.cond c a b) N X ρ w := by
  unfold vc
  rw [e]
  exact h
theorem vc.no {P : Program} {n : Nat} {c : Operand} {a b : Code} {N : Fr → World → Prop} {X : Exit → Fr → World → Prop} {ρ : Fr} {w : World} (e : ev ρ c = .bool false) (h : vc P n b N X ρ w) : vc P n (.cond c a b) N X ρ w := by
  unfold vc
  rw [e]
  exact h
theorem vc.skip {P : Program} {n : Nat} {N : Fr → World → Prop} {X : Exit → Fr → World → Prop} {ρ : Fr} {w : World} (h : N ρ w) : vc P n .skip N X ρ w := h
set_option maxRecDepth 100000 in
theorem natRight_does {W : World} {A : Option Addr} {n c : Nat} {G : List Nat} {z : List Op30} (hs : Shp W) (hg : 1 < W.heap.size) (hz : Sl W 3 G A n (z.flatMap encOp30)) (hG : ∀ k ∈ G, k < W.heap.size) (hok : ∀ o ∈ z, OpOk W o) (hn : n ≤ c ∧ c * 40 ≤ 140737488351232) :
    Does Tryz.prog 5 [.slice A n c] W (fun v w' => v = .bool true ∧ Only [] W w') := by
  have hzl := hz.num encOp30_len (by decide)
  have hnn : n ≤ 140737488351232 := by omega
  refine Does.enter (fn := Tryz.f5) (by kernel_rfl) rfl (by kernel_rfl) (by kernel_rfl) ?_
  conv => whnf
  refine (alive_does hs hg).mono ?_
  rintro v w1 ⟨rfl, ho1⟩
  conv => whnf
  refine wide_does.mono ?_
  rintro v w2 ⟨T, rfl, hT, hSt, ho2⟩
  conv => whnf
  refine vStore.fresh (cs := cfC (wideC 255)) (by rw [cf_len (wideC_ok _)]; kernel_rfl) (by rw [cf_len (wideC_ok _)]; kernel_rfl) (one_cfC _) (fun w3 b4 ho3 hz3 => ?_)
  have hw3 := (ho1.t0 ho2).t0 ho3
  have hSt3 := hSt.o ho3
  have okc := wideC_ok 255
  have hsz1 := ho1.size
  have hTlt : T < w2.heap.size := hSt.lt T (by simp)
  have hq4 : W.heap.size ≤ w2.heap.size := (ho1.t0 ho2).size
  conv => whnf
  refine VLoop.inv (α := Nat × NatS × List Nat) [(2, 3), (5, 21), (29, 196)] (fun t => [(5, .int .i64 t.1)])
    (fun t w' => t.1 ≤ n ∧ Inv 0 t.2.1 ∧ InsIn t.2.1 ∧ t.2.1.cf = wideC 255 ∧ St w' T t.2.1 t.2.2 ∧ (∀ k ∈ t.2.2, W.heap.size ≤ k ∧ k ≠ w2.heap.size) ∧ Blk w' w2.heap.size 26 ⟨cfC (wideC 255)⟩ ∧ Only [] W w') (fun t => n - t.1) (0, newS (wideC 255), [T]) (by kernel_rfl)
    ⟨rfl, trivial⟩ ⟨Nat.zero_le _, new_inv okc (wideC_may 255), (fun x hx => by cases hx), rfl, hSt3, fun k hk => by
      obtain rfl : k = T := by simpa using hk
      exact ⟨by omega, by omega⟩, b4, hw3⟩ ?_
  clear b4 hSt hSt3 hw3
  rintro ⟨i, s, F⟩ wr j ⟨hi, hinv, hins, hscf, hSt, hF, b4, ho⟩
  dsimp only at hi hinv hins hscf hSt hF b4
  have ok1 := hinv.ok
  have hsr := hs.o ho
  have hgF : 1 ∉ F := fun h => by have := (hF _ h).1; omega
  conv => whnf
  refine VIf.dec (fun ht => ?_) (fun ht => ?_)
  rotate_left
  · conv => whnf
    exact ⟨rfl, ho⟩
  have ht : (i : Int) < (n : Int) := ht
  have hi2 : i < z.length := by omega
  have ei : IntKind.i64.wrap ((i : Int) + 1) = ((i + 1 : Nat) : Int) := by rw [wi64]; omega
  have hzr := hz.o ho
  obtain ⟨b, off, rfl, -⟩ := hzr.some_ (by omega)
  have hload : Loads Tryz.prog 40 ⟨b, off + i * 3, none⟩ wr (.agg ⟨encOp30 z[i]⟩) := hzr.elem encOp30_len hi2 (by kernel_rfl) (by kernel_rfl)
  have hop := hok z[i] (List.getElem_mem hi2)
  obtain ⟨GB, hGB, hGBl⟩ := hop.bs
  have hlen := hop.len
  have hgo := go_ok hinv hins (by rw [hscf]; exact wide_ex 255) z[i].inn z[i].l
  generalize z[i] = o at *
  obtain ⟨inn, step, A0, c0, l⟩ := o
  dsimp only at hGB hlen hgo
  conv => whnf
  refine ⟨_, _, rfl, i, off + i * 3, rfl, by omega, rfl, ?_⟩
  conv => whnf
  refine ⟨_, hload, ?_⟩
  clear hload
  conv => whnf
  refine vStore.fresh (cs := encOp30 ⟨inn, step, A0, c0, l⟩) (by kernel_rfl) (by kernel_rfl) (one_cons rfl (one_cons rfl (one_cons rfl one_nil))) (fun w6 b6 ho6 hz6 => ?_)
  have how6 := ho.t0 ho6
  conv => whnf
  refine ⟨.slice A0 l.length c0, Loads.one (by kernel_rfl) (b6.at (i := 2) rfl), ?_⟩
  conv => whnf
  refine (own_does (hGB.o how6) hlen).mono ?_
  rintro v wo ⟨X, nX, cX, FX, rfl, hrX, hoX, hFX⟩
  obtain rfl := (Row.bs hrX).len
  have hoo := how6.t0 hoX
  conv => whnf
  refine (parse_does (Row.bs hrX) (hs.o hoo) hlen hrX.le.1 (by have h2 := hrX.le.2; unfold maxLen at h2; exact h2)).mono ?_
  rintro v wp ⟨O, D, rfl, hp, hop⟩
  have hpl := pk_len (O := O) (D := D) hp.ok
  conv => whnf
  refine vStore.fresh (cs := pkC (parseP l) O D) (by rw [hpl]; kernel_rfl) (by rw [hpl]; kernel_rfl) (one_pkC _ _ _) (fun w7 b7 ho7 hz7 => ?_)
  have hr7 : Only [] wr w7 := ((ho6.t0 hoX).t0 hop).t0 ho7
  have how7 := ho.t0 hr7
  have b67 := ((b6.only hoX (by simp)).only hop (by simp)).only ho7 (by simp)
  have hp7 := hp.o ho7
  have zr6 : wr.heap.size < w6.heap.size := b6.lt
  have z6o : w6.heap.size ≤ wo.heap.size := hoX.size
  have zop : wo.heap.size ≤ wp.heap.size := hop.size
  have hne : ∀ k ∈ F, k < wr.heap.size := hSt.lt
  have hGBr : Bs w7 GB A0 l.length l := hGB.o how7
  have hGBF : ∀ k ∈ GB, k ∉ F := fun k hk hm => by have := (hF _ hm).1; have := hGBl k hk; omega
  clear hrX hFX hz6 hz7
  conv => whnf
  refine VJoin.cut (α := Option Addr × Nat × List Nat × List Nat) [(9, 11), (46, 64)] (fun t => [(9, .slice t.1 (goR inn s l).2.1.length t.2.1), (10, .int .i64 (goR inn s l).1)])
    (fun t w' => Row w' 5 1 t.2.2.1 t.1 (goR inn s l).2.1.length t.2.1 ((goR inn s l).2.1.map u8) ∧ St w' T (goR inn s l).2.2 t.2.2.2 ∧ Only F w7 w' ∧ (∀ k ∈ t.2.2.2, k ∈ F ∨ w7.heap.size ≤ k) ∧ (∀ k ∈ t.2.2.1, w7.heap.size ≤ k)) (by kernel_rfl) ?_ ?_
  · conv => whnf
    refine ⟨.bool inn, Loads.one (by kernel_rfl) (b67.at (i := 0) rfl), ?_⟩
    have cont : ∀ (r : Int × List UInt8 × NatS) (v : Value) (wo w' : World), r = goR inn s l → Only [] w7 wo → Ends wo w' T F v r → ∃ X c FX F', v = .tuple ⟨[.slice X (goR inn s l).2.1.length c, .int .i64 (goR inn s l).1]⟩ ∧
        Row w' 5 1 FX X (goR inn s l).2.1.length c ((goR inn s l).2.1.map u8) ∧ St w' T (goR inn s l).2.2 F' ∧ Only F w7 w' ∧ (∀ k ∈ F', k ∈ F ∨ w7.heap.size ≤ k) ∧ (∀ k ∈ FX, w7.heap.size ≤ k) := by
      rintro r v wo w' rfl hoo ⟨X, c, FX, F', rfl, h1, h2, h3, h4, h5⟩
      have hsz := hoo.size
      refine ⟨X, c, FX, F', rfl, h1, h2, hoo.up.trans h3 (fun k hk => .inl hk), fun k hk => ?_, fun k hk => ?_⟩
      · rcases h4 k hk with h | h
        · exact .inl h
        · exact .inr (by omega)
      · have := (h5 k hk).1
        omega
    conv => whnf
    refine VIf.of (b := inn) (fun hin => ?_) (fun hin => ?_)
    · conv => whnf
      refine ⟨.slice A0 l.length c0, Loads.one (by kernel_rfl) (b67.at (i := 2) rfl), ?_⟩
      conv => whnf
      refine (own_does hGBr hlen).mono ?_
      rintro v wa ⟨Y, nY, cY, FY, rfl, hrY, hoY, hFY⟩
      obtain rfl := (Row.bs hrY).len
      have hYF : ∀ k ∈ FY, k ∉ F := fun k hk hm => by
        have h1 := hFY k hk
        have h2 := hne k hm
        have h3 := hr7.size
        omega
      conv => whnf
      refine (in_does ((hSt.o hr7).o hoY) ok1 (Row.bs hrY) hYF (hs.o (how7.t0 hoY)) hgF hlen hrY.le.1 (by have := hrY.le.2; unfold maxLen at this; exact this)).mono ?_
      intro v wb hE
      obtain ⟨X2, c2, FX2, F', rfl, k1, k2, k3, k4, k5⟩ := cont _ v wa wb (by rw [hin]; rfl) hoY hE
      conv => whnf
      exact ⟨(X2, c2, FX2, F'), ⟨rfl, rfl, trivial⟩, k1, k2, k3, k4, k5⟩
    · conv => whnf
      refine ⟨.slice A0 l.length c0, Loads.one (by kernel_rfl) (b67.at (i := 2) rfl), ?_⟩
      conv => whnf
      refine (own_does hGBr hlen).mono ?_
      rintro v wa ⟨Y, nY, cY, FY, rfl, hrY, hoY, hFY⟩
      obtain rfl := (Row.bs hrY).len
      have hYF : ∀ k ∈ FY, k ∉ F := fun k hk hm => by
        have h1 := hFY k hk
        have h2 := hne k hm
        have h3 := hr7.size
        omega
      conv => whnf
      refine (out_does ((hSt.o hr7).o hoY) ok1 (Row.bs hrY) hYF (hs.o (how7.t0 hoY)) hgF hlen hrY.le.1 (by have := hrY.le.2; unfold maxLen at this; exact this)).mono ?_
      intro v wb hE
      obtain ⟨X2, c2, FX2, F', rfl, k1, k2, k3, k4, k5⟩ := cont _ v wa wb (by rw [hin]; rfl) hoY hE
      conv => whnf
      exact ⟨(X2, c2, FX2, F'), ⟨rfl, rfl, trivial⟩, k1, k2, k3, k4, k5⟩
  rintro ⟨X2, c2, FX2, F2⟩ w8 jj ⟨hrow, hSt8, ho8, hF2, hFX2⟩
  dsimp only at hrow hSt8 ho8 hF2 hFX2
  have hFw : ∀ k ∈ F, W.heap.size ≤ k := fun k hk => (hF k hk).1
  have how8 : Only [] W w8 := how7.trans ho8 (fun k hk => .inr (hFw k hk))
  have b48 := (b4.only hr7 (by simp)).only ho8 (fun hm => (hF _ hm).2 rfl)
  have b68 := b67.only ho8 (fun hm => by have := hne _ hm; omega)
  have b78 := b7.only ho8 (fun hm => by have := hne _ hm; omega)
  have hp8 := hp7.only ho8 (fun k hk => by have := hne _ hk; omega)
  have hGB8 := hGBr.only ho8 hGBF
  have hF28 : ∀ k ∈ F2, W.heap.size ≤ k ∧ k ≠ w2.heap.size := fun k hk => by
    have h2 := how7.size
    have h3 := b4.lt
    have h4 := hr7.size
    rcases hF2 k hk with h | h
    · exact hF k h
    · exact ⟨by omega, by omega⟩
  have fin : ∀ w9, Only [] w8 w9 → (i + 1 ≤ n ∧ Inv 0 (goR inn s l).2.2 ∧ InsIn (goR inn s l).2.2 ∧ (goR inn s l).2.2.cf = wideC 255 ∧ St w9 T (goR inn s l).2.2 F2 ∧ (∀ k ∈ F2, W.heap.size ≤ k ∧ k ≠ w2.heap.size) ∧ Blk w9 w2.heap.size 26 ⟨cfC (wideC 255)⟩ ∧ Only [] W w9) := fun w9 ho9 =>
    ⟨by omega, hgo.inv, hgo.ins, hgo.cf.trans hscf, hSt8.o ho9, hF28, b48.only ho9 (by simp), how8.t0 ho9⟩
  generalize hR : goR inn s l = r at *
  have next : n - (i + 1) < n - i := by omega
  clear b4 b67 b7 hp7 hp hSt hinv hins hr7 b6
  refine vc.abs (id := 16) fun N0 hN0 => ?_
  conv => whnf
  refine VIf.ne (fun h1 => ?_) (fun h1 => ?_)
  · have h1 : parseE l ≠ 0 := h1
    have e1 := hgo.err h1
    have e2 := hgo.fail (by rw [e1]; exact h1)
    conv => whnf
    refine hN0 _ _ ?_
    refine vc.yes rfl ?_
    refine vc.abs (id := 17) fun N1 hN1 => ?_
    conv => whnf
    refine VIf.eq (fun h2 => (h1 (e1.symm.trans h2)).elim) (fun _ => ?_)
    conv => whnf
    refine VIf.ne (fun h3 => (h3 (by rw [e2]; rfl)).elim) (fun _ => ?_)
    conv => whnf
    refine VIf.ne (fun _ => ?_) (fun h4 => (h1 h4).elim)
    conv => whnf
    refine hN1 _ _ ?_
    conv => whnf
    refine VIf.ne (fun h5 => (h5 e1).elim) (fun _ => ?_)
    conv => whnf
    exact ⟨(i + 1, r.2.2, F2), ⟨congrArg (Value.int .i64) ei, trivial⟩, fin _ (Only.refl _ _), next⟩
  have h1 : parseE l = 0 := h1
  conv => whnf
  refine hN0 _ _ ?_
  conv => whnf
  refine VIf.ne (fun h2 => ?_) (fun h2 => ?_)
  · have h2 : r.1 ≠ 0 := h2
    have e2 := hgo.fail h2
    refine vc.abs (id := 17) fun N1 hN1 => ?_
    conv => whnf
    refine VIf.eq (fun h3 => (h2 h3).elim) (fun _ => ?_)
    conv => whnf
    refine VIf.ne (fun h3 => (h3 (by rw [e2]; rfl)).elim) (fun _ => ?_)
    conv => whnf
    refine VIf.ne (fun h4 => (h4 h1).elim) (fun _ => ?_)
    conv => whnf
    refine hN1 _ _ ?_
    conv => whnf
    exact ⟨(i + 1, r.2.2, F2), ⟨congrArg (Value.int .i64) ei, trivial⟩, fin _ (Only.refl _ _), next⟩
  have h2 : r.1 = 0 := h2
  obtain ⟨hRt, hto⟩ := hgo.right h1 h2
  have hll := hRt.len
  refine vc.abs (id := 19) fun N2 hN2 => ?_
  conv => whnf
  refine (own_does (Row.bs hrow) (by omega)).mono ?_
  rintro v wa ⟨Y, nY, cY, FY, rfl, hrY, hoY, hFY⟩
  obtain rfl := (Row.bs hrY).len
  conv => whnf
  refine (parse_does (Row.bs hrY) (hs.o (how8.t0 hoY)) (by omega) hrY.le.1 (by have h2 := hrY.le.2; unfold maxLen at h2; exact h2)).mono ?_
  rintro v wb ⟨O2, D2, rfl, hq, hob⟩
  have hql := pk_len (O := O2) (D := D2) hq.ok
  conv => whnf
  refine vStore.fresh (cs := pkC (parseP r.2.1) O2 D2) (by rw [hql]; kernel_rfl) (by rw [hql]; kernel_rfl) (one_pkC _ _ _) (fun w9 b11 ho9 hz9 => ?_)
  have h89 : Only [] w8 w9 := (hoY.t0 hob).t0 ho9
  have b49 := b48.only h89 (by simp)
  have b69 := b68.only h89 (by simp)
  have b79 := b78.only h89 (by simp)
  have hp9 := hp8.o h89
  have hGB9 := hGB8.o h89
  have hrow9 := (Row.bs hrow).o h89
  have how9 := how8.t0 h89
  conv => whnf
  refine hN2 _ _ ?_
  refine vc.abs2 rfl fun N3 hN3 => ?_
  conv => whnf
  refine VIf.ne (fun h3 => (h3 hRt.e0).elim) (fun _ => ?_)
  conv => whnf
  refine ⟨.slice A0 l.length c0, Loads.one (by kernel_rfl) (b69.at (i := 2) rfl), ?_⟩
  conv => whnf
  refine VIf.ne (fun h3 => (h3 (congrArg Int.ofNat hll)).elim) (fun _ => ?_)
  have hPl := (parse_ok h1).len
  have eH : IntKind.i64.wrap ((l.length : Int) - ((parseP l).data.length : Int)) = (headL l : Int) := by rw [wi64]; omega
  cases inn
  · conv => whnf
    refine ⟨.bool false, Loads.one (by kernel_rfl) (b69.at (i := 0) rfl), ?_⟩
    conv => whnf
    refine ⟨_, b11.pkSrc hq.ok, ?_⟩
    conv => whnf
    refine ⟨_, b49.cfOutside okc, ?_⟩
    conv => whnf
    refine ⟨_, eql_ad hq.ok.src okc.outside _ _, ?_⟩
    conv => whnf
    refine VIf.not (VIf.of (b := decide ((parseP r.2.1).src = (wideC 255).outside)) (fun _ => ?_) (fun h3 => (of_decide_eq_false h3 ((hRt.src rfl).trans (by rw [hscf]))).elim))
    conv => whnf
    refine ⟨.bool false, Loads.one (by kernel_rfl) (b69.at (i := 0) rfl), ?_⟩
    conv => whnf
    refine hN3 _ _ ?_
    refine vc.no rfl ?_
    refine vc.skip ?_
    conv => whnf
    refine ⟨.slice A0 l.length c0, Loads.one (by kernel_rfl) (b69.at (i := 2) rfl), ?_⟩
    conv => whnf
    refine ⟨_, Loads.one (by kernel_rfl) (b79.pkData hp9.ok), ?_⟩
    conv => whnf
    refine VLoop.inv (α := Nat) [(2, 3), (13, 15), (139, 167)] (fun k => [(13, .int .i64 (headL l)), (14, .int .i64 k)]) (fun k w' => k ≤ l.length ∧ Only [] w9 w') (fun k => l.length - k) 0 (by kernel_rfl) ⟨congrArg (Value.int .i64) eH, rfl, trivial⟩ ⟨Nat.zero_le _, Only.refl _ _⟩ ?_
    rintro k wk jk ⟨hk, hok'⟩
    conv => whnf
    refine VIf.dec (fun htk => ?_) (fun htk => ?_)
    · have htk : (k : Int) < (r.2.1.length : Int) := htk
      have hk1 : k < r.2.1.length := by omega
      have hk2 : k < l.length := by omega
      have ek : IntKind.i64.wrap ((k : Int) + 1) = ((k + 1 : Nat) : Int) := by rw [wi64]; omega
      have hdf := hRt.diff k hk2
      obtain ⟨bx, ox, rfl, -⟩ := hrow9.some_ (by omega)
      obtain ⟨ba, oa, rfl, -⟩ := hGB9.some_ (by omega)
      conv => whnf
      refine VDraw.abs fun N4 hN4 => ?_
      refine VDraw.q (by kernel_rfl) (by kernel_rfl) ?_
      conv => whnf
      refine ⟨_, _, rfl, k, ox + k, rfl, by omega, p1 _ _, ?_⟩
      conv => whnf
      refine ⟨_, fun w' hw' => Loads.one (by kernel_rfl) (Bs.ld (hrow9.o (hok'.t0 hw')) (getD_some hk1)), ?_⟩
      conv => whnf
      refine ⟨.slice (some ⟨ba, oa, none⟩) l.length c0, fun w' hw' => Loads.one (by kernel_rfl) ((b69.only (hok'.t0 hw') (by simp)).at (i := 2) rfl), ?_⟩
      conv => whnf
      refine ⟨_, _, rfl, k, oa + k, rfl, by omega, p1 _ _, ?_⟩
      conv => whnf
      refine ⟨_, fun w' hw' => Loads.one (by kernel_rfl) (Bs.ld (hGB9.o (hok'.t0 hw')) (getD_some hk2)), ?_⟩
      conv => whnf
      refine VIf.ne (fun hne => ?_) (fun _ => ?_)
      · have hd := hdf (fun e => hne (by rw [e]))
        conv => whnf
        refine ⟨.bool false, fun w' hw' => Loads.one (by kernel_rfl) ((b69.only (hok'.t0 hw') (by simp)).at (i := 0) rfl), ?_⟩
        conv => whnf
        refine ⟨_, fun w' hw' => Loads.one (by kernel_rfl) ((b79.only (hok'.t0 hw') (by simp)).pkProto hp9.ok), ?_⟩
        conv => whnf
        refine ⟨_, fun w' hw' => Loads.one (by kernel_rfl) ((b79.only (hok'.t0 hw') (by simp)).pkOff hp9.ok), ?_⟩
        conv => whnf
        refine ⟨_, fun w' hw' => (differs_does (by omega) (by omega)).qe hw', ?_⟩
        rw [hd]
        conv => whnf
        intro w10 ho10
        refine hN4 _ _ ?_
        conv => whnf
        exact ⟨k + 1, ⟨rfl, congrArg (Value.int .i64) ek, trivial⟩, ⟨by omega, hok'.t0 ho10⟩, by omega⟩
      · conv => whnf
        intro w10 ho10
        refine hN4 _ _ ?_
        conv => whnf
        exact ⟨k + 1, ⟨rfl, congrArg (Value.int .i64) ek, trivial⟩, ⟨by omega, hok'.t0 ho10⟩, by omega⟩
    clear hk htk
    have b6k := b69.only hok' (by simp)
    have b7k := b79.only hok' (by simp)
    have hGBk := hGB9.o hok'
    have hrowk := hrow9.o hok'
    have hwk := how9.t0 hok'
    have h8k := h89.t0 hok'
    conv => whnf
    refine ⟨_, Loads.one (by kernel_rfl) (b7k.pkProto hp9.ok), ?_⟩
    refine splitB.abs fun N5 hN5 => ?_
    conv => whnf
    refine VIf.eq (fun h17 => ?_) (fun h17 => ?_)
    rotate_left
    · conv => whnf
      refine hN5 _ _ ?_
      conv => whnf
      exact ⟨(i + 1, r.2.2, F2), ⟨congrArg (Value.int .i64) ei, trivial⟩, fin _ h8k, next⟩
    have h17 : (parseP l).proto = 17 := h17
    conv => whnf
    refine ⟨_, Loads.one (by kernel_rfl) (b7k.pkOff hp9.ok), ?_⟩
    conv => whnf
    refine VIf.eq (fun h00 => ?_) (fun h00 => ?_)
    rotate_left
    · conv => whnf
      refine hN5 _ _ ?_
      conv => whnf
      exact ⟨(i + 1, r.2.2, F2), ⟨congrArg (Value.int .i64) ei, trivial⟩, fin _ h8k, next⟩
    have h00 : (parseP l).off = 0 := h00
    conv => whnf
    refine ⟨_, Loads.one (by kernel_rfl) (b7k.pkMore hp9.ok), ?_⟩
    conv => whnf
    refine hN5 _ _ ?_
    conv => whnf
    refine VIf.not (VIf.of (b := (parseP l).more) (fun hm => ?_) (fun hm => ?_))
    · conv => whnf
      exact ⟨(i + 1, r.2.2, F2), ⟨congrArg (Value.int .i64) ei, trivial⟩, fin _ h8k, next⟩
    have hval := hRt.valid h17 h00 hm
    conv => whnf
    refine ⟨.slice A0 l.length c0, Loads.one (by kernel_rfl) (b6k.at (i := 2) rfl), ?_⟩
    conv => whnf
    refine (valid_law hGBk (hs.o hwk) hlen).mono ?_
    rintro v wvp ⟨Op, Dp, Ep, rfl, hpp, hdp, hovp⟩
    have hlp := pk_len (O := Op) (D := Dp) hpp.ok
    have b15p := (Blk.new wvp 56 ⟨pkC zeroP (none, 0) (none, 0)⟩).alloc (.cells ⟨dgC zeroD (none, 0)⟩ 61)
    have b16p := Blk.new (wvp.alloc (.cells ⟨pkC zeroP (none, 0) (none, 0)⟩ 56)) 61 ⟨dgC zeroD (none, 0)⟩
    have zvp := World.size_alloc wvp (.cells ⟨pkC zeroP (none, 0) (none, 0)⟩ 56)
    have havp := (Only.alloc (Only.refl [] wvp) (.cells ⟨pkC zeroP (none, 0) (none, 0)⟩ 56)).alloc (.cells ⟨dgC zeroD (none, 0)⟩ 61)
    have h8vp := h8k.t0 hovp
    have hsvp := h8vp.size
    have h8ap := h8vp.t0 havp
    conv => whnf
    refine vStore.all (cs := pkC (parseP l) Op Dp) b15p (by rw [hlp]; kernel_rfl) (by rw [hlp]; kernel_rfl) (one_pkC _ _ _) (fun wxp b15xp hoxp _ => ?_)
    have b16xp := b16p.only hoxp (fun hm => by have h3 : (wvp.alloc (.cells ⟨pkC zeroP (none, 0) (none, 0)⟩ 56)).heap.size = wvp.heap.size := List.mem_singleton.1 hm; omega)
    conv => whnf
    refine vStore.all (cs := dgC (validD l) Ep) b16xp (by kernel_rfl) (by kernel_rfl) (one_dgC _ _) (fun wyp b16yp hoyp _ => ?_)
    have h8yp : Only [] w8 wyp := (h8ap.nw hoxp hsvp).nw hoyp (show w8.heap.size ≤ (wvp.alloc (.cells ⟨pkC zeroP (none, 0) (none, 0)⟩ 56)).heap.size by omega)
    have hwyp := how8.t0 h8yp
    have h8yk : Only [] w8 wyp := h8yp
    conv => whnf
    refine (valid_law (((Row.bs hrow).o h8yp)) (hs.o hwyp) (by omega)).mono ?_
    rintro v wvq ⟨Oq, Dq, Eq, rfl, hpq, hdq, hovq⟩
    have hlq := pk_len (O := Oq) (D := Dq) hpq.ok
    have b15q := (Blk.new wvq 56 ⟨pkC zeroP (none, 0) (none, 0)⟩).alloc (.cells ⟨dgC zeroD (none, 0)⟩ 61)
    have b16q := Blk.new (wvq.alloc (.cells ⟨pkC zeroP (none, 0) (none, 0)⟩ 56)) 61 ⟨dgC zeroD (none, 0)⟩
    have zvq := World.size_alloc wvq (.cells ⟨pkC zeroP (none, 0) (none, 0)⟩ 56)
    have havq := (Only.alloc (Only.refl [] wvq) (.cells ⟨pkC zeroP (none, 0) (none, 0)⟩ 56)).alloc (.cells ⟨dgC zeroD (none, 0)⟩ 61)
    have h8vq := h8yp.t0 hovq
    have hsvq := h8vq.size
    have h8aq := h8vq.t0 havq
    conv => whnf
    refine vStore.all (cs := pkC (parseP r.2.1) Oq Dq) b15q (by rw [hlq]; kernel_rfl) (by rw [hlq]; kernel_rfl) (one_pkC _ _ _) (fun wxq b15xq hoxq _ => ?_)
    have b16xq := b16q.only hoxq (fun hm => by have h3 : (wvq.alloc (.cells ⟨pkC zeroP (none, 0) (none, 0)⟩ 56)).heap.size = wvq.heap.size := List.mem_singleton.1 hm; omega)
    conv => whnf
    refine vStore.all (cs := dgC (validD r.2.1) Eq) b16xq (by kernel_rfl) (by kernel_rfl) (one_dgC _ _) (fun wyq b16yq hoyq _ => ?_)
    have h8yq : Only [] w8 wyq := (h8aq.nw hoxq hsvq).nw hoyq (show w8.heap.size ≤ (wvq.alloc (.cells ⟨pkC zeroP (none, 0) (none, 0)⟩ 56)).heap.size by omega)
    rw [← hval]
    conv => whnf
    refine VIf.of (b := (validB l != validB l)) (fun hb => absurd hb (by simp)) (fun _ => ?_)
    conv => whnf
    exact ⟨(i + 1, r.2.2, F2), ⟨congrArg (Value.int .i64) ei, trivial⟩, fin _ h8yq, next⟩
  · conv => whnf
    refine ⟨.bool true, Loads.one (by kernel_rfl) (b69.at (i := 0) rfl), ?_⟩
    conv => whnf
    refine ⟨.bool true, Loads.one (by kernel_rfl) (b69.at (i := 0) rfl), ?_⟩
    conv => whnf
    refine ⟨0, 21, rfl, by decide, rfl, ?_⟩
    conv => whnf
    refine ⟨u8 ((parseP r.2.1).dst.2.getD 0 0), Loads.one (by kernel_rfl) (b11.at (i := 21) (pk_dst0 hq.ok)), ?_⟩
    rw [hRt.dst rfl]
    conv => whnf
    refine ⟨_, b79.pkDst hp9.ok, ?_⟩
    conv => whnf
    refine ⟨_, b49.cfOutside okc, ?_⟩
    conv => whnf
    refine ⟨_, eql_ad hp9.ok.dst okc.outside _ _, ?_⟩
    conv => whnf
    refine hN3 _ _ ?_
    refine vc.no (congrArg Value.bool (show (!decide ((parseP l).dst = (wideC 255).outside)) = false by rw [decide_eq_true ((hto rfl).trans (by rw [hscf]))]; rfl)) ?_
    refine vc.skip ?_
    conv => whnf
    refine ⟨.slice A0 l.length c0, Loads.one (by kernel_rfl) (b69.at (i := 2) rfl), ?_⟩
    conv => whnf
    refine ⟨_, Loads.one (by kernel_rfl) (b79.pkData hp9.ok), ?_⟩
    conv => whnf
    refine VLoop.inv (α := Nat) [(2, 3), (13, 15), (139, 167)] (fun k => [(13, .int .i64 (headL l)), (14, .int .i64 k)]) (fun k w' => k ≤ l.length ∧ Only [] w9 w') (fun k => l.length - k) 0 (by kernel_rfl) ⟨congrArg (Value.int .i64) eH, rfl, trivial⟩ ⟨Nat.zero_le _, Only.refl _ _⟩ ?_
    rintro k wk jk ⟨hk, hok'⟩
    conv => whnf
    refine VIf.dec (fun htk => ?_) (fun htk => ?_)
    · have htk : (k : Int) < (r.2.1.length : Int) := htk
      have hk1 : k < r.2.1.length := by omega
      have hk2 : k < l.length := by omega
      have ek : IntKind.i64.wrap ((k : Int) + 1) = ((k + 1 : Nat) : Int) := by rw [wi64]; omega
      have hdf := hRt.diff k hk2
      obtain ⟨bx, ox, rfl, -⟩ := hrow9.some_ (by omega)
      obtain ⟨ba, oa, rfl, -⟩ := hGB9.some_ (by omega)
      conv => whnf
      refine VDraw.abs fun N4 hN4 => ?_
      refine VDraw.q (by kernel_rfl) (by kernel_rfl) ?_
      conv => whnf
      refine ⟨_, _, rfl, k, ox + k, rfl, by omega, p1 _ _, ?_⟩
      conv => whnf
      refine ⟨_, fun w' hw' => Loads.one (by kernel_rfl) (Bs.ld (hrow9.o (hok'.t0 hw')) (getD_some hk1)), ?_⟩
      conv => whnf
      refine ⟨.slice (some ⟨ba, oa, none⟩) l.length c0, fun w' hw' => Loads.one (by kernel_rfl) ((b69.only (hok'.t0 hw') (by simp)).at (i := 2) rfl), ?_⟩
      conv => whnf
      refine ⟨_, _, rfl, k, oa + k, rfl, by omega, p1 _ _, ?_⟩
      conv => whnf
      refine ⟨_, fun w' hw' => Loads.one (by kernel_rfl) (Bs.ld (hGB9.o (hok'.t0 hw')) (getD_some hk2)), ?_⟩
      conv => whnf
      refine VIf.ne (fun hne => ?_) (fun _ => ?_)
      · have hd := hdf (fun e => hne (by rw [e]))
        conv => whnf
        refine ⟨.bool true, fun w' hw' => Loads.one (by kernel_rfl) ((b69.only (hok'.t0 hw') (by simp)).at (i := 0) rfl), ?_⟩
        conv => whnf
        refine ⟨_, fun w' hw' => Loads.one (by kernel_rfl) ((b79.only (hok'.t0 hw') (by simp)).pkProto hp9.ok), ?_⟩
        conv => whnf
        refine ⟨_, fun w' hw' => Loads.one (by kernel_rfl) ((b79.only (hok'.t0 hw') (by simp)).pkOff hp9.ok), ?_⟩
        conv => whnf
        refine ⟨_, fun w' hw' => (differs_does (by omega) (by omega)).qe hw', ?_⟩
        rw [hd]
        conv => whnf
        intro w10 ho10
        refine hN4 _ _ ?_
        conv => whnf
        exact ⟨k + 1, ⟨rfl, congrArg (Value.int .i64) ek, trivial⟩, ⟨by omega, hok'.t0 ho10⟩, by omega⟩
      · conv => whnf
        intro w10 ho10
        refine hN4 _ _ ?_
        conv => whnf
        exact ⟨k + 1, ⟨rfl, congrArg (Value.int .i64) ek, trivial⟩, ⟨by omega, hok'.t0 ho10⟩, by omega⟩
    clear hk htk
    have b6k := b69.only hok' (by simp)
    have b7k := b79.only hok' (by simp)
    have hGBk := hGB9.o hok'
    have hrowk := hrow9.o hok'
    have hwk := how9.t0 hok'
    have h8k := h89.t0 hok'
    conv => whnf
    refine ⟨_, Loads.one (by kernel_rfl) (b7k.pkProto hp9.ok), ?_⟩
    refine splitB.abs fun N5 hN5 => ?_
    conv => whnf
    refine VIf.eq (fun h17 => ?_) (fun h17 => ?_)
    rotate_left
    · conv => whnf
      refine hN5 _ _ ?_
      conv => whnf
      exact ⟨(i + 1, r.2.2, F2), ⟨congrArg (Value.int .i64) ei, trivial⟩, fin _ h8k, next⟩
    have h17 : (parseP l).proto = 17 := h17
    conv => whnf
    refine ⟨_, Loads.one (by kernel_rfl) (b7k.pkOff hp9.ok), ?_⟩
    conv => whnf
    refine VIf.eq (fun h00 => ?_) (fun h00 => ?_)
    rotate_left
    · conv => whnf
      refine hN5 _ _ ?_
      conv => whnf
      exact ⟨(i + 1, r.2.2, F2), ⟨congrArg (Value.int .i64) ei, trivial⟩, fin _ h8k, next⟩
    have h00 : (parseP l).off = 0 := h00
    conv => whnf
    refine ⟨_, Loads.one (by kernel_rfl) (b7k.pkMore hp9.ok), ?_⟩
    conv => whnf
    refine hN5 _ _ ?_
    conv => whnf
    refine VIf.not (VIf.of (b := (parseP l).more) (fun hm => ?_) (fun hm => ?_))
    · conv => whnf
      exact ⟨(i + 1, r.2.2, F2), ⟨congrArg (Value.int .i64) ei, trivial⟩, fin _ h8k, next⟩
    have hval := hRt.valid h17 h00 hm
    conv => whnf
    refine ⟨.slice A0 l.length c0, Loads.one (by kernel_rfl) (b6k.at (i := 2) rfl), ?_⟩
    conv => whnf
    refine (valid_law hGBk (hs.o hwk) hlen).mono ?_
    rintro v wvp ⟨Op, Dp, Ep, rfl, hpp, hdp, hovp⟩
    have hlp := pk_len (O := Op) (D := Dp) hpp.ok
    have b15p := (Blk.new wvp 56 ⟨pkC zeroP (none, 0) (none, 0)⟩).alloc (.cells ⟨dgC zeroD (none, 0)⟩ 61)
    have b16p := Blk.new (wvp.alloc (.cells ⟨pkC zeroP (none, 0) (none, 0)⟩ 56)) 61 ⟨dgC zeroD (none, 0)⟩
    have zvp := World.size_alloc wvp (.cells ⟨pkC zeroP (none, 0) (none, 0)⟩ 56)
    have havp := (Only.alloc (Only.refl [] wvp) (.cells ⟨pkC zeroP (none, 0) (none, 0)⟩ 56)).alloc (.cells ⟨dgC zeroD (none, 0)⟩ 61)
    have h8vp := h8k.t0 hovp
    have hsvp := h8vp.size
    have h8ap := h8vp.t0 havp
    conv => whnf
    refine vStore.all (cs := pkC (parseP l) Op Dp) b15p (by rw [hlp]; kernel_rfl) (by rw [hlp]; kernel_rfl) (one_pkC _ _ _) (fun wxp b15xp hoxp _ => ?_)
    have b16xp := b16p.only hoxp (fun hm => by have h3 : (wvp.alloc (.cells ⟨pkC zeroP (none, 0) (none, 0)⟩ 56)).heap.size = wvp.heap.size := List.mem_singleton.1 hm; omega)
    conv => whnf
    refine vStore.all (cs := dgC (validD l) Ep) b16xp (by kernel_rfl) (by kernel_rfl) (one_dgC _ _) (fun wyp b16yp hoyp _ => ?_)
    have h8yp : Only [] w8 wyp := (h8ap.nw hoxp hsvp).nw hoyp (show w8.heap.size ≤ (wvp.alloc (.cells ⟨pkC zeroP (none, 0) (none, 0)⟩ 56)).heap.size by omega)
    have hwyp := how8.t0 h8yp
    have h8yk : Only [] w8 wyp := h8yp
    conv => whnf
    refine (valid_law (((Row.bs hrow).o h8yp)) (hs.o hwyp) (by omega)).mono ?_
    rintro v wvq ⟨Oq, Dq, Eq, rfl, hpq, hdq, hovq⟩
    have hlq := pk_len (O := Oq) (D := Dq) hpq.ok
    have b15q := (Blk.new wvq 56 ⟨pkC zeroP (none, 0) (none, 0)⟩).alloc (.cells ⟨dgC zeroD (none, 0)⟩ 61)
    have b16q := Blk.new (wvq.alloc (.cells ⟨pkC zeroP (none, 0) (none, 0)⟩ 56)) 61 ⟨dgC zeroD (none, 0)⟩
    have zvq := World.size_alloc wvq (.cells ⟨pkC zeroP (none, 0) (none, 0)⟩ 56)
    have havq := (Only.alloc (Only.refl [] wvq) (.cells ⟨pkC zeroP (none, 0) (none, 0)⟩ 56)).alloc (.cells ⟨dgC zeroD (none, 0)⟩ 61)
    have h8vq := h8yp.t0 hovq
    have hsvq := h8vq.size
    have h8aq := h8vq.t0 havq
    conv => whnf
    refine vStore.all (cs := pkC (parseP r.2.1) Oq Dq) b15q (by rw [hlq]; kernel_rfl) (by rw [hlq]; kernel_rfl) (one_pkC _ _ _) (fun wxq b15xq hoxq _ => ?_)
    have b16xq := b16q.only hoxq (fun hm => by have h3 : (wvq.alloc (.cells ⟨pkC zeroP (none, 0) (none, 0)⟩ 56)).heap.size = wvq.heap.size := List.mem_singleton.1 hm; omega)
    conv => whnf
    refine vStore.all (cs := dgC (validD r.2.1) Eq) b16xq (by kernel_rfl) (by kernel_rfl) (one_dgC _ _) (fun wyq b16yq hoyq _ => ?_)
    have h8yq : Only [] w8 wyq := (h8aq.nw hoxq hsvq).nw hoyq (show w8.heap.size ≤ (wvq.alloc (.cells ⟨pkC zeroP (none, 0) (none, 0)⟩ 56)).heap.size by omega)
    rw [← hval]
    conv => whnf
    refine VIf.of (b := (validB l != validB l)) (fun hb => absurd hb (by simp)) (fun _ => ?_)
    conv => whnf
    exact ⟨(i + 1, r.2.2, F2), ⟨congrArg (Value.int .i64) ei, trivial⟩, fin _ h8yq, next⟩
end Go.Proofs.YtofomopdaponbaaGreatDoor
