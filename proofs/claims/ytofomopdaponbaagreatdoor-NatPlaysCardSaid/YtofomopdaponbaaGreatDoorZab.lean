/-
  The document's nat (mosaicref30): a whole UDP packet, or a first fragment, that goes out (outFirst).
-/
import Derived.Test.YtofomopdaponbaaGreatDoorZaa
namespace Go.Proofs.YtofomopdaponbaaGreatDoor
open Go.RowKit
set_option linter.unusedVariables false
set_option linter.unusedSimpArgs false

/-- How a way through the document's nat ends. -/
def Ends30 (w w' : World) (T : Nat) (F : List Nat) (v : Value) (r : Int × List UInt8 × NatS) : Prop :=
  ∃ X c FX F', v = .tuple ⟨[.slice X r.2.1.length c, .int .i64 r.1]⟩ ∧ Bs w' FX X r.2.1.length r.2.1 ∧ St30 w' T r.2.2 F' ∧ Only F w w' ∧ (∀ k ∈ F', k ∈ F ∨ w.heap.size ≤ k) ∧ (∀ k ∈ FX, w.heap.size ≤ k ∧ k < w'.heap.size ∧ k ∉ F')
theorem Ends30.none_ {w w' : World} {T : Nat} {F F' : List Nat} {e : Int} {s : NatS} (h : St30 w' T s F') (ho : Only F w w') (hF : ∀ k ∈ F', k ∈ F ∨ w.heap.size ≤ k) : Ends30 w w' T F (.tuple ⟨[.slice none 0 0, .int .i64 e]⟩) (e, [], s) :=
  ⟨none, 0, [], F', rfl, Sl.nil _ _ _ _, h, ho, hF, by simp⟩
theorem Ends30.own {w w1 w' : World} {T : Nat} {F F' : List Nat} {v : Value} {l : List UInt8} {s : NatS} (hv : Own w1 w' 5 1 (l.map u8) v) (h : St30 w1 T s F') (ho : Only F w w1) (hF : ∀ k ∈ F', k ∈ F ∨ w.heap.size ≤ k) : ∃ X c, v = .slice X l.length c ∧ Ends30 w w' T F (.tuple ⟨[v, .int .i64 0]⟩) (0, l, s) := by
  obtain ⟨X, c, G, rfl, hB, -, -, hoB, hG⟩ := hv.bs
  refine ⟨X, c, rfl, X, c, G, F', rfl, hB, h.o hoB, ho.f0 hoB, hF, fun k hk => ?_⟩
  have := hG k hk
  have z := ho.size
  refine ⟨by omega, by omega, fun hm => ?_⟩
  have := h.lt k hm
  omega
def firstR (s : NatS) (p : Pk) (l : List UInt8) : Int × List UInt8 × NatS :=
  if p.data.length < 8 then (20, [], s)
  else if (mappedS s p.src (wordL p.data 0)).1 < 0 then (201, [], ⟨s.cf, s.now, (mappedS s p.src (wordL p.data 0)).2, s.outs, s.ins⟩)
  else (0, endL l 12 s.cf.outside (portOf (mappedS s p.src (wordL p.data 0)).2 (mappedS s p.src (wordL p.data 0)).1) (headL l),
      ⟨s.cf, s.now, useM (mappedS s p.src (wordL p.data 0)).2 (mappedS s p.src (wordL p.data 0)).1 s.now, if p.more = true then notedL s.cf.parts s.now s.outs (kyP p) p.src else s.outs, s.ins⟩)
theorem Row.g_of {w : World} {e size n c : Nat} {F : List Nat} {A : Option Addr} {xs : List Value} (h : Row w e size F A n c xs) (hn : 0 < n) : ∃ g, F = [g] ∧ A = some ⟨g, 0, none⟩ := by
  obtain ⟨g, cur, e1, e2, -⟩ := h.blk (by have := h.le.1; omega)
  exact ⟨g, e1, e2⟩
set_option maxHeartbeats 8000000 in
set_option maxRecDepth 100000 in
theorem routFirst_does {w : World} {T : Nat} {s : NatS} {F G : List Nat} {A : Option Addr} {n c : Nat} {l : List UInt8} {p : Pk} {O D : At} {B : Nat} (h : St30 w T s F) (ok : okS s) (hl : Bs w G A n l) (hG : ∀ k ∈ G, k ∉ F) (hGw : ∀ k ∈ G, k < w.heap.size)
    (hp : Pks w p O D B) (hB : ∀ k ∈ F, k < B) (hky : okKy (kyP p)) (h20 : 20 ≤ headL l) (hlen : l.length = headL l + p.data.length) (hmax : l.length ≤ 65535) (hpo : ∀ m ∈ s.maps, 0 ≤ m.out ∧ m.out ≤ 65535) :
    Does Tryz.prog 123 [.pointer (some ⟨T, 0, none⟩), .slice A n c, .agg ⟨pkC p O D⟩, .int .i64 (headL l : Nat)] w (fun v w' => Ends30 w w' T F v (firstR s p l)) := by
  have hll := hl.len
  have okp := hp.ok
  have okc := ok.cf
  have h0 := h
  obtain ⟨A1, n1, c1, F1, A2, n2, c2, F2, A3, n3, c3, F3, hr, rfl⟩ := h0
  have hb := hr.b
  have hz := hr.m.sl
  have hn1 := hz.num nmC_len (by decide)
  have q1 := ok.nmaps
  have q2 := ok.cmaps
  have q3 := ok.first
  have q4 := ok.last
  have q5 := ok.cparts
  have q6 := ok.nouts
  have hA := Only.alloc (Only.refl [] w) (.cells ⟨pkC p O D⟩ 56)
  have b6 := Blk.new w 56 ⟨pkC p O D⟩
  obtain ⟨GD, hD, hGD⟩ := hp.data
  have hdl := hp.dl
  have hw0 := wordL_bd p.data 0
  generalize hF0 : T :: (F1 ++ (F2 ++ F3)) = F at *
  have nF6 : w.heap.size ∉ F := fun hm => by have := h.lt _ hm; omega
  have hTF : T ∈ F := by rw [← hF0]; simp
  have hF1F : ∀ k ∈ F1, k ∈ F := fun k hk => by rw [← hF0]; simp [hk]
  refine Does.enter (fn := Tryz.f123) (by kernel_rfl) rfl (by kernel_rfl) (by kernel_rfl) ?_
  conv => whnf
  (refine ⟨_, Loads.one (by kernel_rfl) (b6.pkData okp), ?_⟩; conv => whnf)
  refine VIf.dec (fun h8 => ?_) (fun h8 => ?_)
  · have h8 : p.data.length < 8 := by omega
    conv => whnf
    have e : firstR s p l = (20, [], s) := if_pos h8
    rw [e]
    exact Ends30.none_ (h.o hA) hA.up (fun k hk => .inl hk)
  have h8 : ¬ p.data.length < 8 := by omega
  have hres : firstR s p l = if (mappedS s p.src (wordL p.data 0)).1 < 0 then (201, [], ⟨s.cf, s.now, (mappedS s p.src (wordL p.data 0)).2, s.outs, s.ins⟩)
      else (0, endL l 12 s.cf.outside (portOf (mappedS s p.src (wordL p.data 0)).2 (mappedS s p.src (wordL p.data 0)).1) (headL l),
        ⟨s.cf, s.now, useM (mappedS s p.src (wordL p.data 0)).2 (mappedS s p.src (wordL p.data 0)).1 s.now, if p.more = true then notedL s.cf.parts s.now s.outs (kyP p) p.src else s.outs, s.ins⟩) := if_neg h8
  rw [hres]
  clear hres
  have hmd : mappedS s p.src (wordL p.data 0) = if idxI (endIs p.src (wordL p.data 0)) s.maps ≥ 0 then (idxI (endIs p.src (wordL p.data 0)) s.maps, s.maps)
    else if (s.maps.length : Int) ≥ s.cf.maps then (-1, s.maps)
    else match freeFrom s.maps s.cf.first (s.cf.last + 1 - s.cf.first).toNat with
      | some out => ((s.maps.length : Int), s.maps ++ [⟨p.src, wordL p.data 0, out, 0⟩])
      | none => (-1, s.maps) := rfl
  generalize mappedS s p.src (wordL p.data 0) = md at hmd ⊢
  conv => whnf
  (refine ⟨_, Loads.one (by kernel_rfl) (b6.pkData okp), ?_⟩; conv => whnf)
  (refine (rget30_does (k := 0) (hD.o hA) (by omega) hdl).mono ?_; rintro v w2 ⟨rfl, ho2⟩)
  have hw2 := hA.t0 ho2
  have b62 := b6.only ho2 (by simp)
  generalize hport : wordL p.data 0 = port at *
  conv => whnf
  refine ⟨_, b62.pkSrc okp, ?_⟩
  conv => whnf
  (refine (rend_does (hb.only hw2 (by simp)) okc okp.src (hz.o hw2) ok.maps (by omega)).mono ?_; rintro v w3 ⟨rfl, ho3⟩)
  have hw3 := hw2.t0 ho3
  have b63 := b62.only ho3 (by simp)
  have hb3 := hb.only hw3 (by simp)
  conv => whnf
  refine VJoin.cut (α := Nat × List Nm × List Nat) [(8, 13), (25, 64)] (fun | (i, ms, F') => [(11, .int .i64 (i : Nat))])
    (fun | (i, ms, F') => fun w' => md = ((i : Int), ms) ∧ i < ms.length ∧ ms.length ≤ 1000 ∧ (∀ m ∈ ms, okAd m.addr) ∧ (∀ m ∈ ms, 0 ≤ m.out ∧ m.out ≤ 65535) ∧ St30 w' T ⟨s.cf, s.now, ms, s.outs, s.ins⟩ F' ∧ Only F w w' ∧ (∀ k ∈ F', k ∈ F ∨ w3.heap.size ≤ k) ∧ Blk w' w.heap.size 56 ⟨pkC p O D⟩) (by kernel_rfl) ?_ ?_
  · conv => whnf
    refine VIf.dec (fun hneg => ?_) (fun hneg => ?_)
    rotate_left
    · rcases find_idx (endIs p.src port) s.maps with ⟨g1, g2⟩ | ⟨i, hi, g1, g2⟩
      · exact absurd g1 hneg
      conv => whnf
      refine ⟨(i, s.maps, F), ⟨congrArg (Value.int .i64) g1, trivial⟩, ?_, hi, by omega, ok.maps, hpo, h.o hw3, hw3.up, fun k hk => .inl hk, b63⟩
      rw [hmd, if_pos (by omega), g1]
    rw [if_neg (by omega)] at hmd
    conv => whnf
    (refine (rfree_does hb3 okc q3 q4 (hz.o hw3) (by omega)).mono ?_; rintro v w4 ⟨rfl, ho4⟩)
    have hw4 := hw3.t0 ho4
    have b64 := b63.only ho4 (by simp)
    have hb4 := hb.only hw4 (by simp)
    conv => whnf
    refine VDraw.abs fun N1 hN1 => ?_
    refine VDraw.q (by kernel_rfl) (by kernel_rfl) ?_
    conv => whnf
    (refine ⟨_, fun w' hw' => Loads.one (by kernel_rfl) ((hb4.only hw' (by simp)).ntM okc), ?_⟩; conv => whnf)
    (refine ⟨_, fun w' hw' => Loads.one (by kernel_rfl) ((hb4.only hw' (by simp)).ntMaps okc), ?_⟩; conv => whnf)
    refine VIf.dec (fun hfull => ?_) (fun hfull => ?_)
    · have hfull : (n1 : Int) ≥ s.cf.maps := hfull
      conv => whnf
      intro w5 ho5
      refine hN1 _ _ ?_
      conv => whnf
      rw [if_pos (by omega)] at hmd
      rw [hmd]
      exact Ends30.none_ (h.o (hw4.t0 ho5)) (hw4.t0 ho5).up (fun k hk => .inl hk)
    have hfull : ¬ (n1 : Int) ≥ s.cf.maps := hfull
    rw [if_neg (by omega)] at hmd
    conv => whnf
    intro w5 ho5
    refine hN1 _ _ ?_
    have hw5 := hw4.t0 ho5
    have b65 := b64.only ho5 (by simp)
    cases hff : freeFrom s.maps s.cf.first (s.cf.last + 1 - s.cf.first).toNat with
    | none =>
      rw [hff] at hmd
      conv => whnf
      rw [hmd]
      exact Ends30.none_ (h.o hw5) hw5.up (fun k hk => .inl hk)
    | some f =>
      rw [hff] at hmd
      have hfb := freeFrom_some hff
      have hmd : md = ((s.maps.length : Int), s.maps ++ [⟨p.src, port, f, 0⟩]) := hmd
      have hf0 : f ≠ 0 := by omega
      have hb5 := hb.only hw5 (by simp)
      have hm5 := hr.m.only hw5 (by simp)
      conv => whnf
      refine VIf.eq (fun e => absurd e hf0) (fun _ => ?_)
      conv => whnf
      refine VDraw.abs fun N2 hN2 => ?_
      refine VDraw.ahead 14 (fun w' => True) (fun w' => Blk w' T 106 ⟨natC s.cf s.now (.slice A1 n1 c1) (.slice A2 n2 c2) (.slice A3 n3 c3)⟩ ∧ Blk w' w.heap.size 56 ⟨pkC p O D⟩) [0, 1, 2, 3, 4, 5, 6, 7, 8, 9, 10, 11, 12, 13, 14] (by kernel_rfl) (by kernel_rfl) trivial ⟨hb5.drew, b65.drew⟩ ?_
      conv => whnf
      (refine ⟨_, fun w' hw' => Loads.one (by kernel_rfl) (hw'.2.1.ntM okc), ?_⟩; conv => whnf)
      refine ⟨_, fun w' hw' => hw'.2.2.pkSrc okp, ?_⟩
      conv => whnf
      refine lenIs.of (by rw [List.length_map]; exact okp.src.2.2) ?_
      conv => whnf
      have ex : (adC p.src ++ [Value.int .i64 port, .int .i64 f, .int .i64 0]) ++ [] = nmC ⟨p.src, port, f, 0⟩ := by simp [nmC, adP_id okp.src]
      have e55 : ((adC p.src ++ [Value.int .i64 port, .int .i64 f, .int .i64 0]) ++ []).length = 20 := by rw [ex, nmC_len]
      have e56 : (adC p.src ++ [Value.int .i64 port, .int .i64 f, .int .i64 0]).length = 20 := by rw [← e55]; simp
      refine lenIs.of (Nat.succ.inj e56) ?_
      conv => whnf
      refine ⟨⟨trivial, fun _ => ⟨hb5.drew.alloc _, b65.drew.alloc _⟩⟩, ?_⟩
      conv => whnf
      refine vFall.append 48 20 48 rfl (by kernel_rfl) rfl (hm5.drew.alloc _) rfl (Sl.new w5.drew 48 20 ((adC p.src ++ [Value.int .i64 port, .int .i64 f, .int .i64 0]) ++ []) 1 e55) (by rw [ex]; exact fun u hu => cell_of_one (one_nmC _ u hu)) (by omega) (by omega) ?_
      intro A6 c6 F6 w6 hr6 ho6 hF6
      have hal := (Only.refl [] w5.drew).alloc (.cells ⟨(adC p.src ++ [Value.int .i64 port, .int .i64 f, .int .i64 0]) ++ []⟩ 48)
      have hoA : Only F1 w5.drew w6 := hal.zf ho6
      have hb6 := hb5.drew.only hoA hr.tm
      have b66 := b65.drew.only hoA (fun hm => nF6 (hF1F _ hm))
      refine ⟨⟨trivial, fun _ => ⟨hb6, b66⟩⟩, ?_⟩
      have hr6' := hr6.cast (ys := (s.maps ++ [(⟨p.src, port, f, 0⟩ : Nm)]).flatMap nmC) (by rw [ex]; simp)
      have hF6' : ∀ k ∈ F6, k ∈ F1 ∨ w5.heap.size ≤ k := fun k hk => by
        rcases hF6 k hk with h | h
        · exact .inl h
        · exact .inr (Nat.le_trans hal.size h)
      conv => whnf
      refine vStore.one hb6 (by kernel_rfl) rfl (i := 42) (u := .slice A1 n1 c1) ((nat_tail okc 7).trans rfl) (fun hb7 ho7 => ?_)
      rw [natC_setM okc] at hb7
      refine ⟨⟨trivial, fun h => Bool.noConfusion h⟩, ?_⟩
      have nT : ∀ {F : List Nat}, T ∉ F → ∀ k ∈ F, k ∉ [T] := fun ht k hk h => by
        obtain rfl : k = T := by simpa using h
        exact ht hk
      have hm7 := hr6'.only ho7 (nT (hr6'.ne_blk hb6 (by decide)))
      have ho57 := ((hr.o.o hw5.drew).only hoA (fun k hk hm => hr.mo k hm hk)).only ho7 (nT hr.to)
      have hi57 := ((hr.i.o hw5.drew).only hoA (fun k hk hm => hr.mi k hm hk)).only ho7 (nT hr.ti)
      have b67 := b66.only ho7 (fun hm => by
        obtain e : w.heap.size = T := by simpa using hm
        exact nF6 (e ▸ hTF))
      have how7 : Only F w _ := (hw5.drew.up.ff (hoA.mono (fun x hx => .inl (hF1F x hx)))).ff (ho7.mono (fun x hx => .inl (by simp at hx; rw [hx]; exact hTF)))
      obtain ⟨w7, hw7⟩ : ∃ w7, w6.setCell ⟨T, 42, none⟩ (.slice A6 (n1 + 1) c6) = w7 := ⟨_, rfl⟩
      rw [hw7] at hb7 hm7 ho57 hi57 b67 how7 ho7
      have z5 := hw5.size
      have z6 := hoA.size
      have z7 := ho7.size
      have hlF := h.lt
      have hst : St30 w7 T ⟨s.cf, s.now, s.maps ++ [⟨p.src, port, f, 0⟩], s.outs, s.ins⟩ (T :: (F6 ++ (F2 ++ F3))) := ⟨A6, n1 + 1, c6, F6, A2, n2, c2, F2, A3, n3, c3, F3, ⟨hb7, hm7, ho57, hi57, hr.to, hr.ti, fun k hk hm => by
        rcases hF6' k hk with h1 | h1
        · exact hr.mo k h1 hm
        · have := hr.lo k hm; omega, fun k hk hm => by
        rcases hF6' k hk with h1 | h1
        · exact hr.mi k h1 hm
        · have := hr.li k hm; omega, fun k hk => by have := hr.lo k hk; have z : w5.drew.heap.size = w5.heap.size := rfl; omega, fun k hk => by have := hr.li k hk; have z : w5.drew.heap.size = w5.heap.size := rfl; omega⟩, rfl⟩
      conv => whnf
      rw [hw7]
      refine hN2 _ _ ?_
      conv => whnf
      (refine ⟨_, Loads.one (by kernel_rfl) (hb7.ntM okc), ?_⟩; conv => whnf)
      have hi' : IntKind.i64.wrap (((n1 + 1 : Nat) : Int) - 1) = (n1 : Int) := by rw [wi64]; omega
      refine ⟨(n1, s.maps ++ [⟨p.src, port, f, 0⟩], T :: (F6 ++ (F2 ++ F3))), ⟨congrArg (Value.int .i64) hi', trivial⟩, ?_, by simp; omega, by simp; omega, ?_, ?_, hst, how7, ?_, b67⟩
      · rw [hmd, hn1]
      · intro m hm
        rcases List.mem_append.1 hm with h1 | h1
        · exact ok.maps m h1
        · rw [List.mem_singleton.1 h1]
          exact okp.src
      · intro m hm
        rcases List.mem_append.1 hm with h1 | h1
        · exact hpo m h1
        · rw [List.mem_singleton.1 h1]
          show 0 ≤ f ∧ f ≤ 65535
          omega
      · intro k hk
        have z3 := hw3.size
        have z4 := ho4.size
        have z45 := ho5.size
        simp only [List.mem_cons, List.mem_append] at hk
        rcases hk with rfl | hk | hk | hk
        · exact .inl hTF
        · rcases hF6' k hk with h1 | h1
          · exact .inl (hF1F k h1)
          · exact .inr (by omega)
        · exact .inl (by rw [← hF0]; simp [hk])
        · exact .inl (by rw [← hF0]; simp [hk])
  rintro ⟨i, ms, F'⟩ w8 j ⟨hmd', hi, hms, okms, hpm, hst, how8, hF8, b68⟩
  rw [hmd']
  clear hmd hmd'
  dsimp only
  rw [if_neg (by omega), portOf_nat hi, useM_nat hi]
  have hst0 := hst
  obtain ⟨A1', n1', c1', F1', A2', n2', c2', F2', A3', n3', c3', F3', hr8, hFe⟩ := hst0
  have hb8 := hr8.b
  have hm8 := hr8.m
  dsimp only at hb8 hm8
  have hn8 : ms.length = n1' := hm8.sl.num nmC_len (by decide)
  obtain ⟨g, rfl, rfl⟩ := hm8.g_of (by omega)
  have hgF : g ∈ F' := by rw [hFe]; simp
  have gT : T ∉ [g] := hr8.tm
  have gp : w.heap.size ∉ [g] := fun hm => by
    obtain e : w.heap.size = g := by simpa using hm
    have z2 := ho2.size
    have z3 := ho3.size
    have z0 := hA.size
    have hlt := b6.lt
    rcases hF8 g hgF with h1 | h1
    · exact nF6 (e ▸ h1)
    · omega
  conv => whnf
  refine VDraw.abs fun N4 hN4 => ?_
  refine VDraw.tail 11 (by kernel_rfl) (by kernel_rfl) ?_
  conv => whnf
  refine ⟨_, fun w' hw' => hw' ▸ Loads.one (by kernel_rfl) (Blk.ntM (Blk.drew hb8) okc), ?_⟩
  conv => whnf
  refine ⟨_, fun w' hw' => hw' ▸ Loads.one (by kernel_rfl) (Blk.ntNow (Blk.drew hb8) okc), ?_⟩
  conv => whnf
  refine ⟨_, _, rfl, i, i * 20, rfl, by omega, (Nat.zero_add _).symm, ?_⟩
  conv => whnf
  obtain ⟨hstr, hm9, ho9⟩ := Row.putAt (P := Tryz.prog) (t := 2) (i := i) (j := 19) (x := { ms[i] with used := s.now }) (v := .int .i64 s.now) hm8.drew nmC_len (by kernel_rfl) rfl hi hn8 (by decide) (nmC_used _ _)
  refine ⟨_, hstr, ?_⟩
  generalize World.setCell w8.drew ⟨g, i * 20 + 19, none⟩ (.int .i64 s.now) = w9 at *
  have hb9 := hb8.drew.only ho9 gT
  have b69 := b68.drew.only ho9 gp
  have ho9o := (hr8.o.o (Only.refl [] w8).drew).only ho9 (fun k hk hm => hr8.mo k hm hk)
  have ho9i := (hr8.i.o (Only.refl [] w8).drew).only ho9 (fun k hk hm => hr8.mi k hm hk)
  have z9 := ho9.size
  have zd : w8.drew.heap.size = w8.heap.size := rfl
  have hst9 : St30 w9 T ⟨s.cf, s.now, ms.set i { ms[i] with used := s.now }, s.outs, s.ins⟩ F' := ⟨_, n1', c1', [g], A2', n2', c2', F2', A3', n3', c3', F3', ⟨hb9, hm9, ho9o, ho9i, hr8.to, hr8.ti, hr8.mo, hr8.mi, fun k hk => by have := hr8.lo k hk; omega, fun k hk => by have := hr8.li k hk; omega⟩, hFe⟩
  have z03 : w.heap.size ≤ w3.heap.size := hw3.size
  have hF8' : ∀ k ∈ F', k ∈ F ∨ w.heap.size ≤ k := fun k hk => (hF8 k hk).imp id (fun h => Nat.le_trans z03 h)
  have how9 : Only F w w9 := how8.drew.trans ho9 (fun k hk => by
    obtain rfl : k = g := by simpa using hk
    exact hF8' _ hgF)
  have hout : ({ ms[i] with used := s.now } : Nm).out = ms[i].out := rfl
  have hgl9 : (ms.set i { ms[i] with used := s.now })[i]'(by rw [List.length_set]; exact hi) = { ms[i] with used := s.now } := by rw [List.getElem_set_self]
  have hl9 : i < (ms.set i { ms[i] with used := s.now }).length := by rw [List.length_set]; exact hi
  have okms9 : ∀ m ∈ ms.set i { ms[i] with used := s.now }, okAd m.addr := fun m hm => by
    rcases List.mem_or_eq_of_mem_set hm with h1 | h1
    · exact okms m h1
    · rw [h1]
      exact okms ms[i] (List.getElem_mem hi)
  have hpb := hpm ms[i] (List.getElem_mem hi)
  have hlw : Bs w9 G A n l := hl.only how9 hG
  conv => whnf
  refine hN4 _ _ ?_
  conv => whnf
  -- how it ends: the packet is turned
  have fin : ∀ {w10 : World} {os : List Nt} {F2 : List Nat} {X : Value} {w11 : World}, St30 w10 T ⟨s.cf, s.now, ms.set i { ms[i] with used := s.now }, os, s.ins⟩ F2 → Only F w w10 → (∀ k ∈ F2, k ∈ F ∨ w.heap.size ≤ k) → Own w10 w11 5 1 ((endL l 12 s.cf.outside ms[i].out (headL l)).map u8) X →
      Ends30 w w11 T F (.tuple ⟨[X, .int .i64 0]⟩) (0, endL l 12 s.cf.outside ms[i].out (headL l), ⟨s.cf, s.now, ms.set i { ms[i] with used := s.now }, os, s.ins⟩) := fun h1 h2 h3 h4 => by
    obtain ⟨_, _, _, h⟩ := Ends30.own h4 h1 h2 h3
    exact h
  refine VJoin.cut (α := List Nat) [(75, 90)] (fun F2 => []) (fun F2 => fun w' => St30 w' T ⟨s.cf, s.now, ms.set i { ms[i] with used := s.now }, if p.more = true then notedL s.cf.parts s.now s.outs (kyP p) p.src else s.outs, s.ins⟩ F2 ∧ Only F w w' ∧ (∀ k ∈ F2, k ∈ F ∨ w.heap.size ≤ k)) (by kernel_rfl) ?_ ?_
  · conv => whnf
    (refine ⟨_, Loads.one (by kernel_rfl) (b69.pkMore okp), ?_⟩; conv => whnf)
    refine VIf.of (b := p.more) (fun hmore => ?_) (fun hmore => ?_)
    rotate_left
    · conv => whnf
      refine ⟨F', trivial, ?_, how9, hF8'⟩
      rw [if_neg (by rw [hmore]; decide)]
      exact hst9
    rw [if_pos hmore]
    conv => whnf
    refine VDraw.abs fun N5 hN5 => ?_
    refine VDraw.ahead 13 (fun _ => True) (fun w' => Only [] w9 w') [0, 1, 2, 3, 4, 5, 6, 8, 9, 7, 10, 11, 12, 13] (by kernel_rfl) (by kernel_rfl) trivial (Only.refl [] w9).drew ?_
    conv => whnf
    (refine ⟨_, fun w' hw' => Loads.one (by kernel_rfl) ((hb9.only hw'.2 (by simp)).ntO okc), ?_⟩; conv => whnf)
    refine ⟨_, fun w' hw' => (b69.only hw'.2 (by simp)).pkAll okp, ?_⟩
    conv => whnf
    refine ⟨_, fun w' hw' => (b69.only hw'.2 (by simp)).pkSrc okp, ?_⟩
    conv => whnf
    refine (rkeyOf_does okp).mono ?_
    rintro v wa ⟨rfl, hoa⟩
    have hwa : Only [] w9 wa := ((Only.refl [] w9).drew).t0 hoa
    refine ⟨⟨trivial, fun _ => hwa⟩, ?_⟩
    conv => whnf
    refine (rnoted_does (hb9.only hwa (by simp)) okc (ho9o.o hwa) hky okp.src ok.outs (by have := hr8.o.num ntC_len (by decide); dsimp only at this; omega) q5.1).mono ?_
    rintro v wb ⟨A4, n4, c4, F4, rfl, hs4, hob, hF4⟩
    have hwb : Only [] w9 wb := hwa.t0 hob
    have hbb := hb9.only hwb (by simp)
    refine ⟨⟨trivial, fun _ => hwb⟩, ?_⟩
    conv => whnf
    refine vStore.one hbb (by kernel_rfl) rfl (i := 43) (u := .slice A2' n2' c2') ((nat_tail okc 8).trans rfl) (fun hbc hoc => ?_)
    rw [natC_setO okc] at hbc
    refine ⟨⟨trivial, fun h => Bool.noConfusion h⟩, ?_⟩
    have nT : ∀ {F : List Nat}, T ∉ F → ∀ k ∈ F, k ∉ [T] := fun ht k hk h => by
      obtain rfl : k = T := by simpa using h
      exact ht hk
    have hTlt := hbb.lt
    have hT9 := hb9.lt
    have hza := hwa.size
    have t4 : T ∉ F4 := fun hm => by have := (hF4 _ hm).1; omega
    have hTF' : T ∈ F' := by rw [hFe]; simp
    have hmc := (hm9.only hwb (by simp)).only hoc (nT gT)
    have hsc := hs4.only hoc (nT t4)
    have hic := (ho9i.o hwb).only hoc (nT hr8.ti)
    have zc := hoc.size
    have zb := hwb.size
    conv => whnf
    refine hN5 _ _ ?_
    conv => whnf
    refine ⟨T :: ([g] ++ (F4 ++ F3')), trivial, ⟨_, n1', c1', [g], A4, n4, c4, F4, A3', n3', c3', F3', ⟨hbc, hmc, hsc, hic, t4, hr8.ti, fun k hk hm => ?_, hr8.mi, fun k hk => by have := (hF4 k hk).2; omega, fun k hk => by have := hr8.li k hk; omega⟩, rfl⟩, ?_, ?_⟩
    · obtain rfl : k = g := by simpa using hk
      have := (hF4 _ hm).1
      have := hm9.lt _ hk
      omega
    · exact (how9.f0 hwb).trans hoc (fun k hk => by
        obtain rfl : k = T := by simpa using hk
        exact .inl hTF)
    · intro k hk
      simp only [List.mem_cons, List.mem_append] at hk
      rcases hk with rfl | hk | hk | hk
      · exact .inl hTF
      · rcases hk with rfl | hk
        · exact hF8' _ hgF
        · cases hk
      · have := (hF4 k hk).1
        have := how9.size
        exact .inr (by omega)
      · exact hF8' k (by rw [hFe]; simp [hk])
  rintro FZ wz jz ⟨hsz, hoz, hFz⟩
  have hlz : Bs wz G A n l := hl.only hoz hG
  generalize hos : (if p.more = true then notedL s.cf.parts s.now s.outs (kyP p) p.src else s.outs) = os at *
  have hsz0 := hsz
  obtain ⟨B1, m1, d1, E1, B2, m2, d2, E2, B3, m3, d3, E3, hrz, hEe⟩ := hsz0
  have hbz := hrz.b
  have hmz := hrz.m
  dsimp only at hbz hmz
  have hnz : _ = m1 := hmz.sl.num nmC_len (by decide)
  have hm1 : i < m1 := hnz ▸ hl9
  obtain ⟨gz, rfl, rfl⟩ := hmz.g_of (by omega)
  conv => whnf
  refine VDraw.abs fun N6 hN6 => ?_
  refine VDraw.held (fun w' => Only [] wz w') [0, 1, 2, 3, 4, 5, 6, 7, 8, 9, 10, 11, 12, 13, 14, 15, 16, 17] (by kernel_rfl) (by kernel_rfl) (Only.refl [] wz).drew ?_
  conv => whnf
  refine ⟨_, fun w' hw' => (hbz.only hw' (by simp)).ntOutside okc, ?_⟩
  conv => whnf
  (refine ⟨_, fun w' hw' => Loads.one (by kernel_rfl) ((hbz.only hw' (by simp)).ntM okc), ?_⟩; conv => whnf)
  refine ⟨_, _, rfl, i, 0 + i * 20, rfl, hm1, rfl, ?_⟩
  conv => whnf
  refine ⟨_, fun w' hw' => Loads.one (by kernel_rfl) ((hmz.sl.o hw').fld nmC_len hl9 (nmC_out _)), ?_⟩
  conv => whnf
  rw [hgl9]
  refine (rturnP_does (k := 12) (hlz.o (Only.refl [] wz).drew) h20 (by omega) (by omega) (.inl rfl) okc.outside hpb).mono ?_
  intro v wy hv
  have hv2 := hv
  obtain ⟨_, _, _, _, _, _, hoy, _⟩ := hv2
  refine ⟨(Only.refl [] wz).drew.t0 hoy, ?_⟩
  conv => whnf
  have hE := fin (hsz.o (Only.refl [] wz).drew) hoz.drew hFz hv
  obtain ⟨X, nX, cX, FX, rfl, -⟩ := hv
  conv => whnf
  refine hN6 _ _ ?_
  conv => whnf
  exact hE
end Go.Proofs.YtofomopdaponbaaGreatDoor
/-
  The document's nat (mosaicref30): what goes out.
-/
namespace Go.Proofs.YtofomopdaponbaaGreatDoor
open Go.RowKit
set_option linter.unusedVariables false
set_option linter.unusedSimpArgs false

theorem Bs.small {w : World} {G : List Nat} {A : Option Addr} {n : Nat} {l : List UInt8} (h : Bs w G A n l) : ∃ G', Bs w G' A n l ∧ (∀ k ∈ G', k ∈ G ∧ k < w.heap.size) := by
  rcases Nat.eq_zero_or_pos n with e | e
  · subst e
    have : l = [] := List.eq_nil_of_length_eq_zero h.len
    subst this
    exact ⟨[], Sl.nil _ _ _ _, by simp⟩
  · obtain ⟨b, off, rfl, hb⟩ := h.some_ e
    refine ⟨[b], Sl.single h, fun k hk => ?_⟩
    obtain rfl : k = b := by simpa using hk
    exact ⟨hb, Sl.lt1 h e⟩
theorem outR_first (s : NatS) (p : Pk) (l : List UInt8) : outR s p l =
  if (insideA s.cf p.src && outsideA s.cf p.dst) = false then (300, [], s)
  else if p.proto = 17 then
    if p.off > 0 then
      if (recA (kyP p) s.outs).2 = false then (301, [], s) else (0, addressL l 12 s.cf.outside, s)
    else firstR s p l
  else if quotedB p = false then (301, [], s)
  else if idxI (endIs (qaddrA ((qL p).take (qN p)) 16) (wordL ((qL p).drop (qN p)) 2)) s.maps < 0 then (301, [], s)
  else (0, quoteL (addressL l 12 s.cf.outside) 16 s.cf.outside (portOf s.maps (idxI (endIs (qaddrA ((qL p).take (qN p)) 16) (wordL ((qL p).drop (qN p)) 2)) s.maps)) (headL l), s) := rfl
theorem q_addr {l : List UInt8} {p : Pk} {hd k : Nat} (h : p.data = l.drop hd) (hk : k + 4 ≤ qN p) : (4, (l.drop (hd + 8 + k)).take 4 ++ z12) = qaddrA ((qL p).take (qN p)) k := by
  unfold qaddrA qL
  rw [h, List.drop_take, List.take_take, Nat.min_eq_left (by omega), List.drop_drop, List.drop_drop, show hd + (8 + k) = hd + 8 + k by omega]
  rfl
theorem wordL_dropR {l : List UInt8} {h k : Nat} : wordL (l.drop h) k = wordL l (h + k) := by
  unfold wordL
  simp only [List.getD_eq_getElem?_getD, List.getElem?_drop]
  rfl
theorem q_port {l : List UInt8} {p : Pk} {hd k : Nat} (h : p.data = l.drop hd) : wordL l (hd + 8 + qN p + k) = wordL ((qL p).drop (qN p)) k := by
  unfold qL
  rw [h, List.drop_drop, List.drop_drop, wordL_dropR]
  congr 1
  omega
theorem okRec {k : Ky} {z : List Nt} (h : ∀ x ∈ z, okKy x.key ∧ okAd x.addr) : okAd (recA k z).1 := by
  unfold recA
  split
  · rename_i x hx
    exact (h x (List.mem_of_find?_eq_some hx)).2
  · exact zeroA_ok
set_option maxHeartbeats 8000000 in
set_option maxRecDepth 100000 in
theorem rout30_does {w : World} {T : Nat} {s : NatS} {F G : List Nat} {A : Option Addr} {n c : Nat} {l : List UInt8} {now : Int} (h : St30 w T s F) (ok : okS s) (hl : Bs w G A n l) (hG : ∀ k ∈ G, k ∉ F) (hn : n ≤ 140737488355328) (hc : n ≤ c) (hpo : ∀ m ∈ s.maps, 0 ≤ m.out ∧ m.out ≤ 65535) :
    Does Tryz.prog 45 [.pointer (some ⟨T, 0, none⟩), .slice A n c, .int .i64 now] w (fun v w' => Ends30 w w' T F v (outS s now l)) := by
  obtain ⟨G, hl, hGs⟩ := hl.small
  have hG : ∀ k ∈ G, k ∉ F := fun k hk => hG k (hGs k hk).1
  have hGw : ∀ k ∈ G, k < w.heap.size := fun k hk => (hGs k hk).2
  clear hGs
  have hll := hl.len
  have ok1 := passes_ok ok now
  have hcf := passes_cf s now
  have hTF : T ∈ F := by
    obtain ⟨_, _, _, _, _, _, _, _, _, _, _, _, _, rfl⟩ := h
    simp
  refine Does.enter (fn := Tryz.f45) (by kernel_rfl) rfl (by kernel_rfl) (by kernel_rfl) ?_
  conv => whnf
  refine (rbegin_does h ok).mono ?_
  rintro v w2 ⟨rfl, F', h2, ho2', hF'⟩
  have ho2 : Only F w w2 := ho2'.mono (fun x hx => .inl (by simp at hx; rw [hx]; exact hTF))
  have hGF' : ∀ k ∈ G, k ∉ F' := fun k hk hm => by
    rcases hF' k hm with h1 | h1
    · exact hG k hk h1
    · have := hGw k hk; omega
  have hl2 := hl.only ho2 hG
  conv => whnf
  refine VIf.not (VIf.of (b := (passesS s now).1) (fun hps => ?_) (fun hps => ?_))
  rotate_left
  · conv => whnf
    have e : outS s now l = (1, [], (passesS s now).2) := by
      have e1 : beginE s now l = 1 := if_neg (by rw [hps]; decide)
      unfold outS
      rw [e1, if_pos (by decide)]
    rw [e]
    exact Ends30.none_ h2 ho2 hF'
  have hbE : beginE s now l = parseE l := if_pos hps
  conv => whnf
  refine (rparse_does hl2 hn hc).mono ?_
  rintro v w3 ⟨O, D, rfl, hp3, ho3⟩
  have h3 := h2.o ho3
  have how3 := ho2.f0 ho3
  have hlp := pk_len (O := O) (D := D) hp3.ok
  have hF2 : ∀ k ∈ F', k < w2.heap.size := h2.lt
  conv => whnf
  refine vStore.fresh (cs := pkC (parseP l) O D) (by rw [hlp]; kernel_rfl) (by rw [hlp]; kernel_rfl) (one_pkC _ _ _) (fun w4 b8 ho4 hz4 => ?_)
  have h4 := h3.o ho4
  have how4 := how3.f0 ho4
  have hp4 := hp3.o ho4
  have z23 := ho3.size
  generalize hq8 : w3.heap.size = q8 at *
  have nq8 : q8 ∉ F' := fun hm => by have := hF2 _ hm; omega
  conv => whnf
  refine VIf.ne (fun hE => ?_) (fun hE => ?_)
  · conv => whnf
    have e : outS s now l = (parseE l, [], (passesS s now).2) := by
      unfold outS
      rw [hbE, if_pos hE]
    rw [e]
    exact Ends30.none_ h4 how4 hF'
  have hP := parse_ok hE
  have hres : outS s now l = outR (passesS s now).2 (parseP l) l := by
    unfold outS
    rw [hbE, if_neg (fun h => h hE)]
  have hpo1 : ∀ m ∈ (passesS s now).2.maps, 0 ≤ m.out ∧ m.out ≤ 65535 := fun m hm => by
    unfold passesS at hm
    split at hm
    · exact hpo m (List.mem_filter.1 hm).1
    · exact hpo m hm
  generalize hs1 : (passesS s now).2 = s1 at *
  rw [hres]
  clear hres
  have hhd := hP.head
  have hkey := hP.key
  have h20 := hP.h20
  have h60 := hP.h60
  have hlen := hP.len
  have hdat : (parseP l).data = l.drop (headL l) := by rw [hP.e]; rfl
  have hs4 : (parseP l).src.1 = 4 := by rw [hP.e]; rfl
  have hd4 : (parseP l).dst.1 = 4 := by rw [hP.e]; rfl
  have hmax := hP.max
  clear hP
  generalize parseP l = p at *
  have okp := hp4.ok
  have okc : okCf s1.cf := ok1.cf
  have hl4 : Bs w4 G A n l := hl.only how4 hG
  have h40 := h4
  obtain ⟨A1, n1, c1, F1, A2, n2, c2, F2, A3, n3, c3, F3, hr, hFe⟩ := h40
  have hb := hr.b
  have hz := hr.m.sl
  have hn1 := hz.num nmC_len (by decide)
  have hn2 := hr.o.num ntC_len (by decide)
  have hn3 := hr.i.num ntC_len (by decide)
  have q1 := ok1.nmaps
  have q2 := ok1.cmaps
  have q5 := ok1.cparts
  have q6 := ok1.nouts
  have q7 := ok1.nins
  have hfail : ∀ (w' : World) (e : Int), Only [] w4 w' → outR s1 p l = (e, [], s1) → Ends30 w w' T F (.tuple ⟨[.slice none 0 0, .int .i64 e]⟩) (outR s1 p l) := fun w' e ho h => by
    rw [h]
    exact Ends30.none_ (h4.o ho) (how4.f0 ho) hF'
  have hdone : ∀ {w5 w' : World} {v : Value} {z : List UInt8}, Only [] w4 w5 → Own w5 w' 5 1 (z.map u8) v → outR s1 p l = (0, z, s1) → Ends30 w w' T F (.tuple ⟨[v, .int .i64 0]⟩) (outR s1 p l) := fun ho hv h => by
    rw [h]
    obtain ⟨_, _, _, hE⟩ := Ends30.own hv (h4.o ho) (how4.f0 ho) hF'
    exact hE
  have hres := outR_first s1 p l
  refine vc.S ?_
  refine vc.abs2 rfl fun N0 hN0 => ?_
  conv => whnf
  refine ⟨_, b8.pkSrc okp, ?_⟩
  conv => whnf
  refine (rinside_does hb okc okp.src).mono ?_
  rintro v w5 ⟨rfl, ho5⟩
  rw [inside_eq hs4]
  have b85 := b8.only ho5 (by simp)
  conv => whnf
  refine VIf.not (VIf.of (b := insideA s1.cf p.src) (fun f1 => ?_) (fun f1 => ?_))
  rotate_left
  · conv => whnf
    refine hN0 _ _ ?_
    conv => whnf
    exact hfail _ _ ho5 (by rw [hres, f1]; rfl)
  conv => whnf
  refine ⟨_, b85.pkDst okp, ?_⟩
  conv => whnf
  refine (routside_does (hb.only ho5 (by simp)) okc okp.dst).mono ?_
  rintro v w6 ⟨rfl, ho6⟩
  have hw6 := ho5.t0 ho6
  have b86 := b85.only ho6 (by simp)
  conv => whnf
  refine hN0 _ _ ?_
  conv => whnf
  refine VIf.not (VIf.of (b := outsideA s1.cf p.dst) (fun f2 => ?_) (fun f2 => ?_))
  rotate_left
  · conv => whnf
    exact hfail _ _ hw6 (by rw [hres, f2, Bool.and_false]; rfl)
  rw [if_neg (by rw [f1, f2]; decide)] at hres
  clear hN0 N0
  conv => whnf
  refine ⟨_, b86.pkAll okp, ?_⟩
  conv => whnf
  refine (rhead_does (hp4.o hw6)).mono ?_
  rintro v w7 ⟨rfl, ho7⟩
  have hw7 := hw6.t0 ho7
  have b87 := b86.only ho7 (by simp)
  rw [hhd]
  have hb7 := hb.only hw7 (by simp)
  have hl7 := hl4.o hw7
  conv => whnf
  refine ⟨_, Loads.one (by kernel_rfl) (b87.pkProto okp), ?_⟩
  refine splitB.abs fun N2 hN2 => ?_
  conv => whnf
  refine VIf.eq (fun h17 => ?_) (fun h17 => ?_)
  · rw [if_pos h17] at hres
    conv => whnf
    (refine ⟨_, Loads.one (by kernel_rfl) (b87.pkOff okp), ?_⟩; conv => whnf)
    refine hN2 _ _ ?_
    conv => whnf
    refine VIf.dec (fun hoff => ?_) (fun hoff => ?_)
    · rw [if_pos hoff] at hres
      conv => whnf
      refine VDraw.abs fun N3 hN3 => ?_
      have okA : okAd (recA (kyP p) s1.outs).1 := okRec ok1.outs
      refine VDraw.cut (α := Nat) [(11, 13), (52, 62)] (fun y => [(11, .pointer (some ⟨y, 0, none⟩)), (12, .bool (recA (kyP p) s1.outs).2)]) (fun y w' => Blk w' y 24 ⟨adC (recA (kyP p) s1.outs).1⟩ ∧ Only [] w7 w') (by kernel_rfl) ?_ ?_
      · refine VDraw.tree 10 (fun w' => Only [] w7 w') (fun _ => True) (.one 0 (.one 1 (.one 2 (.one 3 (.one 4 (.two 5 (.two 6 (.one 7 (.one 8 (.one 9 (.one 10 (.one 11 (.one 12 .done)))))) 10 (.one 6 (.one 7 (.one 8 (.one 9 (.one 11 (.one 12 .done))))))) 10 (.one 5 (.one 6 (.one 7 (.one 8 (.one 9 (.one 11 (.one 12 .done))))))))))))) (by kernel_rfl) (by kernel_rfl) (Only.refl [] w7).drew trivial ?_
        conv => whnf
        refine ⟨_, fun w' hw' => Loads.one (by kernel_rfl) ((hb7.only hw' (by simp)).ntO okc), ?_⟩
        conv => whnf
        refine ⟨_, fun w' hw' => (b87.only hw' (by simp)).pkAll okp, ?_⟩
        conv => whnf
        refine ⟨?_, ?_⟩
        · conv => whnf
          refine (rkeyOf_does okp).mono ?_
          rintro v wa ⟨rfl, hoa⟩
          have hwa : Only [] w7 wa := ((Only.refl [] w7).drew).t0 hoa
          refine ⟨⟨hwa, fun _ => trivial⟩, ?_⟩
          conv => whnf
          refine ⟨?_, ?_⟩
          · conv => whnf
            refine (rfound_does hkey ((hr.o.o hw7).o hwa) ok1.outs (by omega)).mono ?_
            rintro v wb ⟨rfl, hob⟩
            have hwb := hwa.t0 hob
            refine ⟨⟨hwb, fun _ => trivial⟩, ?_⟩
            conv => whnf
            refine ⟨⟨hwb.alloc _, fun _ => trivial⟩, ?_⟩
            conv => whnf
            refine vStore.fresh (cs := adC (recA (kyP p) s1.outs).1) (by rw [adC_len okA]; kernel_rfl) (by rw [adC_len okA]; kernel_rfl) (one_adC _) (fun wc bc hoc _ => ?_)
            refine ⟨⟨hwb.t0 hoc, fun _ => trivial⟩, ?_⟩
            conv => whnf
            exact ⟨_, ⟨rfl, rfl, trivial⟩, bc, hwb.t0 hoc⟩
          · conv => whnf
            have bz := Blk.new wa 24 ⟨adC zeroA⟩
            have hwz := hwa.alloc (.cells ⟨adC zeroA⟩ 24)
            refine ⟨⟨hwz, fun _ => trivial⟩, ?_⟩
            conv => whnf
            refine (rfound_does hkey ((hr.o.o hw7).o hwz) ok1.outs (by omega)).mono ?_
            rintro v wb ⟨rfl, hob⟩
            have hwb := hwz.t0 hob
            refine ⟨⟨hwb, fun _ => trivial⟩, ?_⟩
            conv => whnf
            refine vStore.all (cs := adC (recA (kyP p) s1.outs).1) (bz.only hob (by simp)) (by rw [adC_len okA]; kernel_rfl) (by rw [adC_len okA]; rfl) (one_adC _) (fun wc bc hoc _ => ?_)
            have hwc := hwb.nw hoc hwa.size
            refine ⟨⟨hwc, fun _ => trivial⟩, ?_⟩
            conv => whnf
            exact ⟨_, ⟨rfl, rfl, trivial⟩, bc, hwc⟩
        · conv => whnf
          have bz := Blk.new (w7.drew) 24 ⟨adC zeroA⟩
          have hwz := (Only.refl [] w7).drew.alloc (.cells ⟨adC zeroA⟩ 24)
          refine ⟨⟨hwz, fun _ => trivial⟩, ?_⟩
          conv => whnf
          refine (rkeyOf_does okp).mono ?_
          rintro v wa ⟨rfl, hoa⟩
          have hwa := hwz.t0 hoa
          refine ⟨⟨hwa, fun _ => trivial⟩, ?_⟩
          conv => whnf
          refine (rfound_does hkey ((hr.o.o hw7).o hwa) ok1.outs (by omega)).mono ?_
          rintro v wb ⟨rfl, hob⟩
          have hwb := hwa.t0 hob
          refine ⟨⟨hwb, fun _ => trivial⟩, ?_⟩
          conv => whnf
          refine vStore.all (cs := adC (recA (kyP p) s1.outs).1) ((bz.only hoa (by simp)).only hob (by simp)) (by rw [adC_len okA]; kernel_rfl) (by rw [adC_len okA]; rfl) (one_adC _) (fun wc bc hoc _ => ?_)
          have hwc := hwb.nw hoc (Nat.le_refl _)
          refine ⟨⟨hwc, fun _ => trivial⟩, ?_⟩
          conv => whnf
          exact ⟨_, ⟨rfl, rfl, trivial⟩, bc, hwc⟩
      rintro y wz jz ⟨by_, hoz⟩
      refine hN3 _ _ ?_
      have hwz := hw7.t0 hoz
      have hbz := hb7.only hoz (by simp)
      conv => whnf
      refine VIf.not (VIf.of (b := (recA (kyP p) s1.outs).2) (fun f3 => ?_) (fun f3 => ?_))
      rotate_left
      · rw [if_pos f3] at hres
        conv => whnf
        exact hfail _ _ hwz hres
      rw [if_neg (by rw [f3]; decide)] at hres
      conv => whnf
      refine ⟨_, hbz.ntOutside okc, ?_⟩
      conv => whnf
      refine (rturnA_does (k := 12) (hl7.o hoz) (by omega) (by omega) (.inl rfl) (by omega) okc.outside).mono ?_
      intro v wy hv
      have hE := hdone hwz hv hres
      obtain ⟨X, nX, cX, FX, rfl, -⟩ := hv
      conv => whnf
      exact hE
    · rw [if_neg hoff] at hres
      conv => whnf
      (refine ⟨_, Loads.one (by kernel_rfl) (b87.pkProto okp), ?_⟩; conv => whnf)
      refine VIf.eq (fun _ => ?_) (fun hne => (hne h17).elim)
      conv => whnf
      refine ⟨_, b87.pkAll okp, ?_⟩
      conv => whnf
      rw [hres]
      refine (routFirst_does (h4.o hw7) ok1 hl7 (fun k hk => hGF' k hk) (fun k hk => by have := hGw k hk; have := ho2.size; have := ho4.size; have := hw7.size; omega) (hp4.o hw7) hF2 hkey h20 hlen hmax hpo1).mono ?_
      rintro v wy ⟨X, cX, FX, Fy, rfl, hX1, hX2, hX3, hX4, hX5⟩
      conv => whnf
      have zz : w.heap.size ≤ w7.heap.size := (how4.f0 hw7).size
      refine ⟨X, cX, FX, Fy, rfl, hX1, hX2, (how4.f0 hw7).trans hX3 (fun k hk => hF' k hk), fun k hk => ?_, fun k hk => ⟨Nat.le_trans zz (hX5 k hk).1, (hX5 k hk).2⟩⟩
      rcases hX4 k hk with h1 | h1
      · exact hF' k h1
      · exact .inr (Nat.le_trans zz h1)
  · rw [if_neg h17] at hres
    conv => whnf
    refine hN2 _ _ ?_
    conv => whnf
    (refine ⟨_, Loads.one (by kernel_rfl) (b87.pkProto okp), ?_⟩; conv => whnf)
    refine VIf.eq (fun h => (h17 h).elim) (fun _ => ?_)
    conv => whnf
    refine ⟨_, b87.pkAll okp, ?_⟩
    conv => whnf
    refine (rquote_does (hp4.o hw7) (by omega) (by omega)).mono ?_
    rintro v w9 ⟨rfl, ho9⟩
    have hw9 := hw7.t0 ho9
    have hb9 := hb7.only ho9 (by simp)
    have hl9 := hl7.o ho9
    cases hq : quotedB p with
    | false =>
      rw [if_pos hq] at hres
      have eV : quoteV p (headL l) = .tuple ⟨[.int .i64 0, .int .i64 0, .bool false]⟩ := by unfold quoteV; rw [hq]; rfl
      rw [eV]
      conv => whnf
      exact hfail _ _ hw9 hres
    | true =>
    rw [if_neg (by rw [hq]; decide)] at hres
    have eV : quoteV p (headL l) = .tuple ⟨[.int .i64 ((headL l + 8 : Nat) : Int), .int .i64 ((headL l + 8 + qN p : Nat) : Int), .bool true]⟩ := by unfold quoteV; rw [hq]; rfl
    rw [eV]
    obtain ⟨g1, g2, g3⟩ := quoted_facts hq
    have hql : (qL p).length = p.data.length - 8 := by unfold qL; rw [List.length_drop]
    have e16 : IntKind.i64.wrap (((headL l + 8 : Nat) : Int) + 16) = ((headL l + 8 + 16 : Nat) : Int) := by rw [wi64]; omega
    have e2 : IntKind.i64.wrap (((headL l + 8 + qN p : Nat) : Int) + 2) = ((headL l + 8 + qN p + 2 : Nat) : Int) := by rw [wi64]; omega
    have hcut := hl9.cut (lo := headL l + 8 + 16) (hi := n) (m := c) (by omega) (by omega) (by omega) rfl
    have ead : ((4 : Int), ((l.drop (headL l + 8 + 16)).take (n - (headL l + 8 + 16))).take 4 ++ z12) = qaddrA ((qL p).take (qN p)) 16 := by
      rw [← q_addr (k := 16) hdat (by omega), List.take_take, Nat.min_eq_left (by omega)]
    conv => whnf
    refine ⟨headL l + 8 + 16, n, c, e16, rfl, rfl, by omega, by omega, by omega, _, n - (headL l + 8 + 16), c - (headL l + 8 + 16), rfl, rfl, rfl, ?_⟩
    conv => whnf
    refine (raddress30_does hcut (by omega) (by omega)).mono ?_
    rintro v w10 ⟨rfl, ho10⟩
    rw [ead]
    have hw10 := hw9.t0 ho10
    have okq : okAd (qaddrA ((qL p).take (qN p)) 16) := okAd4 (by simp; omega)
    conv => whnf
    rw [e2]
    refine (rget30_does (k := headL l + 8 + qN p + 2) (hl9.o ho10) (by omega) (by omega)).mono ?_
    rintro v w11 ⟨rfl, ho11⟩
    rw [q_port (k := 2) hdat]
    have hw11 := hw10.t0 ho11
    conv => whnf
    refine (rend_does (hb.only hw11 (by simp)) okc okq (hz.o hw11) ok1.maps (by omega)).mono ?_
    rintro v w12 ⟨rfl, ho12⟩
    have hw12 := hw11.t0 ho12
    have hb12 := hb.only hw12 (by simp)
    rcases find_idx (endIs (qaddrA ((qL p).take (qN p)) 16) (wordL ((qL p).drop (qN p)) 2)) s1.maps with ⟨f1, f2⟩ | ⟨i, hi, f1, f2⟩
    · rw [if_pos f1] at hres
      conv => whnf
      refine VIf.dec (fun _ => ?_) (fun hne => (hne f1).elim)
      conv => whnf
      exact hfail _ _ hw12 hres
    rw [f1] at hres ⊢
    rw [if_neg (by omega), portOf_nat hi] at hres
    have hpb := hpo1 _ (List.getElem_mem hi)
    conv => whnf
    refine ⟨_, hb12.ntOutside okc, ?_⟩
    conv => whnf
    refine (rturnA_does (k := 12) (hl4.o hw12) (by omega) (by omega) (.inl rfl) (by omega) okc.outside).mono ?_
    rintro v w13 ⟨X, nX, cX, FX, rfl, hrX, ho13, hFX⟩
    have hw13 := hw12.t0 ho13
    have hb13 := hb.only hw13 (by simp)
    have hz13 := hz.o hw13
    have hnX := hrX.len8
    rw [addressL_len] at hnX
    obtain ⟨b, off, hA1, -⟩ := hz.some_ (by omega)
    subst hA1
    have nXT : T ∉ FX := fun hm => by
      have := hFX _ hm
      have := hb12.lt
      omega
    conv => whnf
    refine VDraw.abs fun N4 hN4 => ?_
    refine VDraw.held (fun w' => Blk w' T 106 ⟨natC s1.cf s1.now (.slice (some ⟨b, off, none⟩) n1 c1) (.slice A2 n2 c2) (.slice A3 n3 c3)⟩ ∧ Sl w' 20 F1 (some ⟨b, off, none⟩) n1 (s1.maps.flatMap nmC)) [0, 1, 2, 3, 4, 5, 6, 7, 8, 9, 10, 11, 12, 13, 14, 15, 16, 17] (by kernel_rfl) (by kernel_rfl) ⟨hb13.drew, hz13⟩ ?_
    conv => whnf
    refine ⟨_, fun w' hw' => hw'.1.ntOutside okc, ?_⟩
    conv => whnf
    (refine ⟨_, fun w' hw' => Loads.one (by kernel_rfl) (hw'.1.ntM okc), ?_⟩; conv => whnf)
    refine ⟨_, _, rfl, i, off + i * 20, rfl, by omega, rfl, ?_⟩
    conv => whnf
    (refine ⟨_, fun w' hw' => Loads.one (by kernel_rfl) (hw'.2.fld nmC_len hi (nmC_out _)), ?_⟩; conv => whnf)
    have hu : udpAt (addressL l 12 s1.cf.outside) (headL l) = headL l + 8 + qN p := by
      rw [← udpAt_e hdat]
      unfold udpAt
      rw [addressL_getD (.inl rfl) (by omega)]
    have hF1 : ∀ k ∈ F1, k ∉ FX := fun k hk hm => by
      have h1 := hr.m.lt k hk
      have h2 := hFX k hm
      have h3 := hw12.size
      omega
    refine (rtq16_does (u := headL l + 8 + qN p) (hrX.drew) (by omega) (by omega) (by omega) okc.outside hpb).mono ?_
    rintro v w14 ⟨rfl, hr14, ho14⟩
    have hb14 := hb13.drew.only ho14 nXT
    refine ⟨⟨hb14, (hz13.o (Only.refl [] w13).drew).only ho14 hF1⟩, ?_⟩
    rw [← hu] at hr14
    rw [tq_eq (.inr rfl) (by rw [hu]; omega) (by rw [hu, addressL_len]; omega) hpb] at hr14
    have how14 : Only [] w12 w14 := (ho13.drew).trans ho14 (fun k hk => .inr (hFX k hk))
    have hOwn : Own w12 w14 5 1 ((quoteL (addressL l 12 s1.cf.outside) 16 s1.cf.outside s1.maps[i].out (headL l)).map u8) (.slice X nX cX) := ⟨X, nX, cX, FX, rfl, hr14, how14, hFX⟩
    have hE := hdone hw12 hOwn hres
    conv => whnf
    refine hN4 _ _ ?_
    conv => whnf
    exact hE
end Go.Proofs.YtofomopdaponbaaGreatDoor
