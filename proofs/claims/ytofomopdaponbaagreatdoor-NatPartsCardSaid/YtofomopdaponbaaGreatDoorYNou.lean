/-
  What goes out (package nat: Out).
-/
import Derived.Test.YtofomopdaponbaaGreatDoorYNbe
import Derived.Test.YtofomopdaponbaaGreatDoorYNpl
import Derived.Test.YtofomopdaponbaaGreatDoorYHt
namespace Go.Proofs.YtofomopdaponbaaGreatDoor
open Go.RowKit
set_option linter.unusedVariables false
set_option linter.unusedSimpArgs false

theorem flat_set {α : Type} {enc : α → List Value} {size : Nat} (hlen : ∀ x, (enc x).length = size) (x : α) (v : Value) : ∀ (z : List α) (i j : Nat) (hi : i < z.length), j < size → enc x = (enc z[i]).set j v → (z.flatMap enc).set (i * size + j) v = (z.set i x).flatMap enc
  | [], i, j, hi, _, _ => by simp at hi
  | y :: z, 0, j, hi, hj, hx => by
    rw [List.flatMap_cons, Nat.zero_mul, Nat.zero_add, List.set_append_left _ _ (by rw [hlen]; exact hj), List.set_cons_zero, List.flatMap_cons, hx]
    rfl
  | y :: z, i + 1, j, hi, hj, hx => by
    rw [List.flatMap_cons, List.set_append_right _ _ (by rw [hlen, Nat.succ_mul]; omega), hlen, show (i + 1) * size + j - size = i * size + j by rw [Nat.succ_mul]; omega, List.set_cons_succ, List.flatMap_cons, flat_set hlen x v z i j (by simpa using hi) hj hx]
/-- One cell of an element of a row is written over. -/
theorem Row.putAt {α : Type} {enc : α → List Value} {P : Program} {t e : TypeId} {w : World} {size n c g i j : Nat} {z : List α} {x : α} {v : Value} (h : Row w e size [g] (some ⟨g, 0, none⟩) n c (z.flatMap enc)) (hlen : ∀ x, (enc x).length = size) (hs : sizeOfT P t = some 1) (hv : isOne v = true) (hi : i < z.length) (hz : z.length = n) (hj : j < size) (hx : enc x = (enc z[i]).set j v) :
    Stores P t ⟨g, i * size + j, none⟩ v w (w.setCell ⟨g, i * size + j, none⟩ v) ∧ Row (w.setCell ⟨g, i * size + j, none⟩ v) e size [g] (some ⟨g, 0, none⟩) n c ((z.set i x).flatMap enc) ∧ Only [g] w (w.setCell ⟨g, i * size + j, none⟩ v) := by
  obtain ⟨cur, hb, hc, ht⟩ := h.own
  have hle := h.le
  have hin : i * size + j < n * size := by
    have : (i + 1) * size ≤ n * size := Nat.mul_le_mul_right _ (by omega)
    rw [Nat.succ_mul] at this
    omega
  have hcl : i * size + j < cur.length := by
    rw [hc]
    exact Nat.lt_of_lt_of_le hin (Nat.mul_le_mul_right _ hle.1)
  refine ⟨Stores.one hs hv (hb.at (List.getElem?_eq_getElem hcl)) (hb.frozen _), Row.ofOwn hb.put (by rw [List.length_set]; exact hc) ?_ ?_ hle.1 hle.2, (Only.refl _ w).put (.inl (by simp))⟩
  · rw [List.take_set, ht, flat_set hlen x v z i j hi hj hx]
  · rw [flat_len hlen, List.length_set, hz]
def nm0 : Nm := ⟨(0, []), 0, 0, 0⟩
def portOf (z : List Nm) (i : Int) : Int := (z.getD i.toNat nm0).out
def useM (z : List Nm) (i now : Int) : List Nm := z.set i.toNat { z.getD i.toNat nm0 with used := now }
theorem portOf_nat {z : List Nm} {i : Nat} (h : i < z.length) : portOf z (i : Int) = z[i].out := by simp [portOf, h]
theorem useM_nat {z : List Nm} {i : Nat} (h : i < z.length) (now : Int) : useM z (i : Int) now = z.set i { z[i] with used := now } := by simp [useM, h]
theorem useM_len (z : List Nm) (i now : Int) : (useM z i now).length = z.length := by simp [useM]
/-- What Out answers for a packet that was taken apart: the error, the bytes, the state behind. -/
def outR (s : NatS) (p : Pk) (l : List UInt8) : Int × List UInt8 × NatS :=
  if (insideA s.cf p.src && outsideA s.cf p.dst) = false then (300, [], s)
  else if p.proto = 17 then
    if p.off > 0 then
      if (recA (kyP p) s.outs).2 = false then (301, [], s) else (0, addressL l 12 s.cf.outside, s)
    else if p.data.length < 8 then (20, [], s)
    else if (mappedS s p.src (wordL p.data 0)).1 < 0 then (201, [], ⟨s.cf, s.now, (mappedS s p.src (wordL p.data 0)).2, s.outs, s.ins⟩)
    else (0, endL l 12 s.cf.outside (portOf (mappedS s p.src (wordL p.data 0)).2 (mappedS s p.src (wordL p.data 0)).1) (headL l),
      ⟨s.cf, s.now, useM (mappedS s p.src (wordL p.data 0)).2 (mappedS s p.src (wordL p.data 0)).1 s.now, if p.more = true then notedL s.cf.parts s.now s.outs (kyP p) p.src else s.outs, s.ins⟩)
  else if quotedB p = false then (301, [], s)
  else if idxI (endIs (qaddrA ((qL p).take (qN p)) 16) (wordL ((qL p).drop (qN p)) 2)) s.maps < 0 then (301, [], s)
  else (0, quoteL (addressL l 12 s.cf.outside) 16 s.cf.outside (portOf s.maps (idxI (endIs (qaddrA ((qL p).take (qN p)) 16) (wordL ((qL p).drop (qN p)) 2)) s.maps)) (headL l), s)
def outS (s : NatS) (now : Int) (l : List UInt8) : Int × List UInt8 × NatS :=
  if beginE s now l ≠ 0 then (beginE s now l, [], (passesS s now).2) else outR (passesS s now).2 (parseP l) l
/-- How a way through ends: the bytes are new, the Nat lies in its state. -/
def Ends (w w' : World) (T : Nat) (F : List Nat) (v : Value) (r : Int × List UInt8 × NatS) : Prop :=
  ∃ X c FX F', v = .tuple ⟨[.slice X r.2.1.length c, .int .i64 r.1]⟩ ∧ Row w' 5 1 FX X r.2.1.length c (r.2.1.map u8) ∧ St w' T r.2.2 F' ∧ Only F w w' ∧ (∀ k ∈ F', k ∈ F ∨ w.heap.size ≤ k) ∧ (∀ k ∈ FX, w.heap.size ≤ k ∧ k ∉ F')
theorem Ends.none_ {w w' : World} {T : Nat} {F F' : List Nat} {e : Int} {s : NatS} (h : St w' T s F') (ho : Only F w w') (hF : ∀ k ∈ F', k ∈ F ∨ w.heap.size ≤ k) : Ends w w' T F (.tuple ⟨[.slice none 0 0, .int .i64 e]⟩) (e, [], s) :=
  ⟨none, 0, [], F', rfl, Row.nil _ _ _ _, h, ho, hF, by simp⟩
theorem Ends.ok {w w' : World} {T q : Nat} {F F' FX : List Nat} {X : Option Addr} {c head : Nat} {l : List UInt8} {s : NatS} (ht : Tx w' q FX X c l head) (h : St w' T s F') (ho : Only F w w') (hF : ∀ k ∈ F', k ∈ F ∨ w.heap.size ≤ k) (hX : ∀ k ∈ FX, w.heap.size ≤ k ∧ k ∉ F') : Ends w w' T F (.tuple ⟨[.slice X l.length c, .int .i64 0]⟩) (0, l, s) :=
  ⟨X, c, FX, F', rfl, ht.row, h, ho, hF, hX⟩
theorem passes_cf (s : NatS) (now : Int) : (passesS s now).2.cf = s.cf := by
  unfold passesS
  split <;> rfl
theorem nmC_used (m : Nm) (u : Int) : nmC { m with used := u } = (nmC m).set 19 (.int .i64 u) := by
  unfold nmC
  rw [List.set_append_right _ _ (by rw [adP_len]; omega), adP_len]
  rfl
theorem nmC_out (m : Nm) : (nmC m)[18]? = some (.int .i64 m.out) := nm_tail m 1
theorem mapped_idx {s : NatS} {a : Ad} {port : Int} (h : ¬ (mappedS s a port).1 < 0) : ∃ i, i < (mappedS s a port).2.length ∧ (mappedS s a port).1 = (i : Nat) := by
  unfold mappedS at h ⊢
  split
  · rename_i h0
    rw [if_pos h0] at h
    rcases idxI_bd (endIs a port) s.maps with h1 | h1
    · exact ⟨(idxI (endIs a port) s.maps).toNat, by show _ < s.maps.length; omega, by show idxI (endIs a port) s.maps = _; omega⟩
    · omega
  · rename_i h0
    rw [if_neg h0] at h
    split
    · rename_i h1
      rw [if_pos h1] at h
      exact absurd (show (-1 : Int) < 0 by decide) h
    · rename_i h1
      rw [if_neg h1] at h
      split
      · exact ⟨s.maps.length, by simp, rfl⟩
      · rename_i h2
        rw [h2] at h
        exact absurd (show (-1 : Int) < 0 by decide) h
theorem setW_getD {l : List UInt8} {k j : Nat} {v : Int} (h1 : j ≠ k) (h2 : j ≠ k + 1) : (setW l k v).getD j 0 = l.getD j 0 := by
  unfold setW
  simp only [List.getD_eq_getElem?_getD]
  rw [List.getElem?_set_ne (by omega), List.getElem?_set_ne (by omega)]
theorem addressL_getD {l : List UInt8} {k j : Nat} {a : Ad} (h : k = 12 ∨ k = 16) (hj : 20 ≤ j) : (addressL l k a).getD j 0 = l.getD j 0 := by
  unfold addressL addrAtL
  rw [setW_getD (by omega) (by omega), setW_getD (by omega) (by omega), setW_getD (by omega) (by omega)]
theorem quoted_facts {p : Pk} (h : quotedB p = true) : 20 ≤ qN p ∧ qN p + 4 ≤ (qL p).length ∧ 28 ≤ p.data.length := by
  unfold quotedB quoted1 quoted2 at h
  simp only [Bool.and_eq_true, decide_eq_true_eq] at h
  exact ⟨h.2.1.1.1.2, h.2.1.1.2, h.1.1.2⟩
theorem udpAt_e {l : List UInt8} {p : Pk} {head : Nat} (h : p.data = l.drop head) : udpAt l head = head + 8 + qN p := by
  unfold udpAt qN qL
  rw [h, List.drop_drop, List.getD_eq_getElem?_getD, List.getD_eq_getElem?_getD, List.getElem?_drop]
set_option maxRecDepth 100000 in
theorem out_does {w : World} {T : Nat} {s : NatS} {F G : List Nat} {A : Option Addr} {n c : Nat} {l : List UInt8} {now : Int} (h : St w T s F) (ok : okS s) (hl : Bs w G A n l) (hG : ∀ k ∈ G, k ∉ F) (hs : Shp w) (hsF : 1 ∉ F) (hn : n ≤ 140737488355328) (hc : n ≤ c) (hcm : c ≤ 9223372036854775807) :
    Does Tryz.prog 17 [.pointer (some ⟨T, 0, none⟩), .slice A n c, .int .i64 now] w (fun v w' => Ends w w' T F v (outS s now l)) := by
  have hll := hl.len
  have hcf := passes_cf s now
  have ok1 := passes_ok ok now
  refine Does.enter (fn := Tryz.f17) (by kernel_rfl) rfl (by kernel_rfl) (by kernel_rfl) ?_
  conv => whnf
  refine (begin_does h ok hl hG hs hsF hn hc hcm).mono ?_
  rintro v w2 ⟨O, D, rfl, hp2, h2, ho2⟩
  have okp := hp2.ok
  have hpl := pk_len (O := O) (D := D) okp
  conv => whnf
  refine vStore.fresh (cs := pkC (beginP s now l) O D) (by rw [hpl]; kernel_rfl) (by rw [hpl]; kernel_rfl) (one_pkC _ _ _) (fun w3 b8 ho3 hz3 => ?_)
  have hF2 : ∀ k ∈ F, k < w2.heap.size := h2.lt
  have hbn : w.heap.size ≤ w2.heap.size := ho2.size
  generalize hq8 : w2.heap.size = q8 at *
  have h3 := h2.o ho3
  have hp3 := hp2.o ho3
  have how3 : Only F w w3 := ho2.f0 ho3
  conv => whnf
  refine VIf.ne (fun hE => ?_) (fun hE => ?_)
  · conv => whnf
    have hres : outS s now l = (beginE s now l, [], (passesS s now).2) := if_pos hE
    rw [hres]
    exact Ends.none_ h3 how3 (fun k hk => .inl hk)
  have hPE : (passesS s now).1 = true ∧ parseE l = 0 := by
    unfold beginE at hE
    split at hE
    · rename_i e
      exact ⟨e, hE⟩
    · exact absurd hE (by decide)
  have hP := parse_ok hPE.2
  have hbP : beginP s now l = parseP l := if_pos hPE.1
  have hres : outS s now l = outR (passesS s now).2 (parseP l) l := if_neg (fun h => h hE)
  rw [hbP] at hp3 b8 okp hpl ⊢
  generalize hs1 : (passesS s now).2 = s1 at *
  rw [hres]
  clear hres
  have hhd := hP.head
  have hkey := hP.key
  have h20 := hP.h20
  have h60 := hP.h60
  have hlen := hP.len
  have hdat : (parseP l).data = l.drop (headL l) := by rw [hP.e]; rfl
  have hmax := hP.max
  clear hP hbP
  generalize parseP l = p at *
  have okc : okCf s1.cf := ok1.cf
  have nF8 : q8 ∉ F := fun h => Nat.lt_irrefl _ (hF2 _ h)
  have hsame : ∀ w', Only [] w3 w' → St w' T s1 F ∧ Only F w w' := fun w' ho => ⟨h3.o ho, how3.f0 ho⟩
  have h3' := h3
  obtain ⟨A1, n1, c1, F1, A2, n2, c2, F2, A3, n3, c3, F3, hb, hr, rfl⟩ := h3'
  have hfail : ∀ (w' : World) (e : Int), Only [] w3 w' → outR s1 p l = (e, [], s1) → Ends w w' T (T :: (F1 ++ (F2 ++ F3))) (.tuple ⟨[.slice none 0 0, .int .i64 e]⟩) (outR s1 p l) := fun w' e ho h => by
    rw [h]
    exact Ends.none_ (hsame w' ho).1 (hsame w' ho).2 (fun k hk => .inl hk)
  conv => whnf
  refine ⟨_, b8.pkSrc okp, ?_⟩
  conv => whnf
  refine (inside_does hb okc okp.src).mono ?_
  rintro v w4 ⟨rfl, ho4⟩
  have b84 := b8.only ho4 (by simp)
  have hb4 := hb.only ho4 (by simp)
  refine splitB.abs fun N0 hN => ?_
  conv => whnf
  refine VIf.not (VIf.of (b := insideA s1.cf p.src) (fun hi1 => ?_) (fun hi1 => ?_))
  rotate_left
  · conv => whnf
    refine hN _ _ ?_
    conv => whnf
    exact hfail _ _ ho4 (by unfold outR; rw [if_pos (by rw [hi1]; rfl)])
  conv => whnf
  refine ⟨_, b84.pkDst okp, ?_⟩
  conv => whnf
  refine (outside_does hb4 okc okp.dst).mono ?_
  rintro v w5 ⟨rfl, ho5⟩
  have b85 := b84.only ho5 (by simp)
  have hb5 := hb4.only ho5 (by simp)
  have hw5 := ho4.t0 ho5
  conv => whnf
  refine hN _ _ ?_
  conv => whnf
  refine VIf.not (VIf.of (b := outsideA s1.cf p.dst) (fun hi2 => ?_) (fun hi2 => ?_))
  rotate_left
  · conv => whnf
    exact hfail _ _ hw5 (by unfold outR; rw [if_pos (by rw [hi2, Bool.and_false])])
  have hres : outR s1 p l = outR s1 p l := rfl
  conv at hres => rhs; unfold outR
  rw [if_neg (by rw [hi1, hi2]; decide)] at hres
  have how5 := how3.f0 hw5
  have hl5 := hl.only how5 hG
  have hs5 : Shp w5 := hs.only how5 hsF
  have hp5 := hp3.o hw5
  conv => whnf
  refine VDraw.abs fun N1 hN1 => ?_
  refine VDraw.held (fun w' => Blk w' q8 56 ⟨pkC p O D⟩) [0, 2, 1, 3, 4, 5, 6] (by kernel_rfl) (by kernel_rfl) b85.drew ?_
  conv => whnf
  refine ⟨_, fun w' hw' => Blk.pkAll hw' okp, ?_⟩
  conv => whnf
  refine (cloneB_does (Bs.only (w' := w5.drew) hl5 ((Only.refl [] w5).drew) (by simp)) hn).mono ?_
  rintro v w6 ⟨X, nx, cx, FX, rfl, hrx, ho6, hFX⟩
  have hw6 : Only [] w5 w6 := ((Only.refl [] w5).drew).t0 ho6
  have b86 := b85.only hw6 (by simp)
  refine ⟨b86, ?_⟩
  conv => whnf
  refine (head_does (hp5.o hw6) (hs5.o hw6)).mono ?_
  rintro v w7 ⟨rfl, ho7⟩
  have b87 := b86.only ho7 (by simp)
  refine ⟨b87, ?_⟩
  conv => whnf
  refine ⟨b87.alloc _, ?_⟩
  conv => whnf
  obtain rfl := (Row.bs hrx).len
  refine hN1 _ (w7.alloc (.cells ⟨[.slice X l.length cx, .int .i64 (headP p)]⟩ 114)) ?_
  rw [hhd]
  have hw7 : Only [] w3 w7 := (hw5.t0 hw6).t0 ho7
  have hw8 := hw7.alloc (.cells ⟨[.slice X l.length cx, .int .i64 (headL l)]⟩ 114)
  have tx8 : Tx (w7.alloc (.cells ⟨[.slice X l.length cx, .int .i64 (headL l)]⟩ 114)) w7.heap.size FX X cx l (headL l) :=
    ⟨Blk.new _ _ _, (hrx.only ho7 (by simp)).alloc _, fun hm => by have := hrx.lt _ hm; have := ho7.size; omega, by omega, by omega⟩
  have b88 := b87.alloc (.cells ⟨[.slice X l.length cx, .int .i64 (headL l)]⟩ 114)
  have z35 : w3.heap.size ≤ w5.heap.size := hw5.size
  have z37 : w3.heap.size ≤ w7.heap.size := hw7.size
  have hX8 : ∀ k ∈ FX, q8 < k := fun k hk => by
    have := hFX k hk
    have : (w5.drew).heap.size = w5.heap.size := rfl
    omega
  have nX : ∀ k ∈ FX, w.heap.size ≤ k ∧ k ∉ T :: (F1 ++ (F2 ++ F3)) := fun k hk => ⟨by have := hX8 k hk; omega, fun hm => by have := hX8 k hk; have := hF2 k hm; omega⟩
  have nX8 : q8 ∉ FX := fun h => Nat.lt_irrefl _ (hX8 _ h)
  have nXT : T ∉ FX := fun h => (nX _ h).2 (by simp)
  generalize hq10 : w7.heap.size = q10 at *
  generalize w7.alloc (.cells ⟨[.slice X l.length cx, .int .i64 (headL l)]⟩ 114) = w8 at *
  have hb8 := hb.only hw8 (by simp)
  have hr8 := hr.only hw8 (by simp)
  have hp8 := hp3.o hw8
  conv => whnf
  refine ⟨_, Loads.one (by kernel_rfl) (b88.pkProto okp), ?_⟩
  refine splitB.abs fun N2 hN2 => ?_
  conv => whnf
  refine VIf.eq (fun h17 => ?_) (fun h17 => ?_)
  · rw [if_pos h17] at hres
    conv => whnf
    refine ⟨_, Loads.one (by kernel_rfl) (b88.pkOff okp), ?_⟩
    conv => whnf
    refine hN2 _ _ ?_
    conv => whnf
    refine VIf.dec (fun hoff => ?_) (fun hoff => ?_)
    · rw [if_pos hoff] at hres
      conv => whnf
      refine VDraw.abs fun N3 hN3 => ?_
      refine VDraw.tree 9 (fun w' => Blk w' q8 56 ⟨pkC p O D⟩ ∧ Blk w' T 103 ⟨natC s1.cf s1.now (.slice A1 n1 c1) (.slice A2 n2 c2) (.slice A3 n3 c3)⟩) (fun _ => True) (.one 0 (.one 1 (.one 2 (.one 3 (.one 4 (.two 5 (.one 6 (.one 7 (.one 8 (.one 9 (.one 10 (.one 11 .done)))))) 9 (.one 5 (.one 6 (.one 7 (.one 8 (.one 10 (.one 11 .done))))))))))) ) (by kernel_rfl) (by kernel_rfl) ⟨b88.drew, hb8.drew⟩ trivial ?_
      conv => whnf
      refine ⟨_, fun w' hw' => Loads.one (by kernel_rfl) (hw'.2.ntO okc), ?_⟩
      conv => whnf
      refine ⟨_, fun w' hw' => Blk.pkAll hw'.1 okp, ?_⟩
      have okA : okAd (recA (kyP p) s1.outs).1 := by
        unfold recA
        split
        · rename_i x hx
          exact (ok1.outs x (List.mem_of_find?_eq_some hx)).2
        · exact zeroA_ok
      conv => whnf
      refine ⟨?_, ?_⟩
      · conv => whnf
        refine (recalled_does (hr8.o.drew.sl) (by have := hr8.o.le; have := hr8.o.le.2; unfold maxLen at this; omega) okp hkey ok1.outs).mono ?_
        rintro v w9 ⟨rfl, ho9⟩
        have hw9 : Only [] w8 w9 := ((Only.refl [] w8).drew).t0 ho9
        have b89 := b88.only hw9 (by simp)
        have hb9 := hb8.only hw9 (by simp)
        refine ⟨⟨⟨b89, hb9⟩, fun _ => trivial⟩, ?_⟩
        conv => whnf
        refine ⟨⟨⟨b89.alloc _, hb9.alloc _⟩, fun _ => trivial⟩, ?_⟩
        conv => whnf
        refine vStore.fresh (cs := adC (recA (kyP p) s1.outs).1) (by rw [adC_len okA]; kernel_rfl) (by rw [adC_len okA]; kernel_rfl) (one_adC _) (fun w10 b11 ho10 _ => ?_)
        have hw10 := hw9.t0 ho10
        refine ⟨⟨⟨b89.only ho10 (by simp), hb9.only ho10 (by simp)⟩, fun _ => trivial⟩, ?_⟩
        conv => whnf
        refine hN3 _ _ ?_
        have tx10 := tx8.only hw10
        have hb10 := hb8.only hw10 (by simp)
        have h10 := hsame _ (hw8.t0 hw10)
        conv => whnf
        refine VIf.not (VIf.of (b := (recA (kyP p) s1.outs).2) (fun hk => ?_) (fun hk => ?_))
        rotate_left
        · rw [if_pos hk] at hres
          conv => whnf
          exact hfail _ _ (hw8.t0 hw10) hres
        rw [if_neg (by rw [hk]; decide)] at hres
        conv => whnf
        refine ⟨_, hb10.ntOutside okc, ?_⟩
        conv => whnf
        refine (address_does (k := 12) tx10 (by omega) (by omega) okc.outside).mono ?_
        rintro v w11 ⟨rfl, tx11, ho11⟩
        have hEnd : Ends w w11 T (T :: (F1 ++ (F2 ++ F3))) (.tuple ⟨[.slice X (addressL l 12 s1.cf.outside).length cx, .int .i64 0]⟩) (outR s1 p l) := by
          rw [hres]
          exact Ends.ok tx11 (h10.1.only ho11 (fun k hk hm => (nX k hm).2 hk)) (h10.2.trans ho11 (fun k hk => .inr (nX k hk).1)) (fun k hk => .inl hk) nX
        clear hres
        conv => whnf
        refine ⟨_, Loads.one (by kernel_rfl) (tx11.blk.at (i := 0) rfl), ?_⟩
        conv => whnf
        exact hEnd
      · conv => whnf
        have hwa := ((Only.refl [] w8).drew).alloc (.cells ⟨adC (0, List.replicate 16 0)⟩ 24)
        have b11 := Blk.new w8.drew 24 ⟨adC (0, List.replicate 16 0)⟩
        refine ⟨⟨⟨b88.drew.alloc _, hb8.drew.alloc _⟩, fun _ => trivial⟩, ?_⟩
        conv => whnf
        refine (recalled_does (hr8.o.sl.o hwa) (by have := hr8.o.le; have := hr8.o.le.2; unfold maxLen at this; omega) okp hkey ok1.outs).mono ?_
        rintro v w9 ⟨rfl, ho9⟩
        have hw9 : Only [] w8 w9 := hwa.t0 ho9
        have b89 := b88.only hw9 (by simp)
        have hb9 := hb8.only hw9 (by simp)
        have b11 := b11.only ho9 (by simp)
        refine ⟨⟨⟨b89, hb9⟩, fun _ => trivial⟩, ?_⟩
        conv => whnf
        refine vStore.all (cs := adC (recA (kyP p) s1.outs).1) b11 (by rw [adC_len okA]; kernel_rfl) (by rw [adC_len okA]; kernel_rfl) (one_adC _) (fun w10 b11 ho10 _ => ?_)
        have hw10 : Only [] w8 w10 := hw9.nw ho10 (Nat.le_refl _)
        refine ⟨⟨⟨b88.only hw10 (by simp), hb8.only hw10 (by simp)⟩, fun _ => trivial⟩, ?_⟩
        conv => whnf
        refine hN3 _ _ ?_
        have tx10 := tx8.only hw10
        have hb10 := hb8.only hw10 (by simp)
        have h10 := hsame _ (hw8.t0 hw10)
        conv => whnf
        refine VIf.not (VIf.of (b := (recA (kyP p) s1.outs).2) (fun hk => ?_) (fun hk => ?_))
        rotate_left
        · rw [if_pos hk] at hres
          conv => whnf
          exact hfail _ _ (hw8.t0 hw10) hres
        rw [if_neg (by rw [hk]; decide)] at hres
        conv => whnf
        refine ⟨_, hb10.ntOutside okc, ?_⟩
        conv => whnf
        refine (address_does (k := 12) tx10 (by omega) (by omega) okc.outside).mono ?_
        rintro v w11 ⟨rfl, tx11, ho11⟩
        have hEnd : Ends w w11 T (T :: (F1 ++ (F2 ++ F3))) (.tuple ⟨[.slice X (addressL l 12 s1.cf.outside).length cx, .int .i64 0]⟩) (outR s1 p l) := by
          rw [hres]
          exact Ends.ok tx11 (h10.1.only ho11 (fun k hk hm => (nX k hm).2 hk)) (h10.2.trans ho11 (fun k hk => .inr (nX k hk).1)) (fun k hk => .inl hk) nX
        clear hres
        conv => whnf
        refine ⟨_, Loads.one (by kernel_rfl) (tx11.blk.at (i := 0) rfl), ?_⟩
        conv => whnf
        exact hEnd
    · rw [if_neg hoff] at hres
      have hl8 : l.length = headL l + p.data.length := hlen
      conv => whnf
      refine ⟨_, Loads.one (by kernel_rfl) (b88.pkProto okp), ?_⟩
      conv => whnf
      refine VIf.eq (fun h17' => ?_) (fun h17' => (h17' h17).elim)
      conv => whnf
      refine ⟨_, Loads.one (by kernel_rfl) (b88.pkData okp), ?_⟩
      conv => whnf
      refine VIf.dec (fun h8 => ?_) (fun h8 => ?_)
      · have h8 : (p.data.length : Int) < 8 := h8
        rw [if_pos (by omega)] at hres
        conv => whnf
        exact hfail _ _ hw8 hres
      have h8 : ¬ (p.data.length : Int) < 8 := h8
      rw [if_neg (by omega)] at hres
      obtain ⟨GD, hGD, hGB⟩ := hp8.data
      have hwb := wordL_bd p.data 0
      conv => whnf
      refine VDraw.abs fun N3 hN3 => ?_
      refine VDraw.held (fun w' => Blk w' q8 56 ⟨pkC p O D⟩) [0, 1, 2, 3, 4, 5, 6, 7, 8] (by kernel_rfl) (by kernel_rfl) b88.drew ?_
      conv => whnf
      refine ⟨_, fun w' hw' => Blk.pkSrc hw' okp, ?_⟩
      conv => whnf
      refine ⟨_, fun w' hw' => Loads.one (by kernel_rfl) (Blk.pkData hw' okp), ?_⟩
      conv => whnf
      refine (word_does (k := 0) (Bs.only (w' := w8.drew) hGD ((Only.refl [] w8).drew) (by simp)) (by omega) (by omega)).mono ?_
      rintro v w9 ⟨rfl, ho9⟩
      have hw9 : Only [] w8 w9 := ((Only.refl [] w8).drew).t0 ho9
      have b89 := b88.only hw9 (by simp)
      refine ⟨b89, ?_⟩
      have ew : IntKind.i64.wrap (wordL p.data 0) = wordL p.data 0 := wi_id (by omega) (by omega)
      conv => whnf
      rw [ew]
      refine (mapped_does (hsame _ (hw8.t0 hw9)).1 ok1 okp.src).mono ?_
      rintro v w10 ⟨rfl, F', h10, ho10, hF'⟩
      have hlt9 := hw9.size
      have z38 : w3.heap.size ≤ w8.heap.size := hw8.size
      have l8 : q8 < w8.heap.size := b88.lt
      have b810 := b89.only ho10 nF8
      refine ⟨b810, ?_⟩
      conv => whnf
      refine hN3 _ _ ?_
      have nF' : ∀ k ∈ F', k ∈ T :: (F1 ++ (F2 ++ F3)) ∨ w8.heap.size ≤ k := fun k hk => (hF' k hk).imp id (fun h => Nat.le_trans hlt9 h)
      have how10 : Only (T :: (F1 ++ (F2 ++ F3))) w w10 := (how3.f0 (hw8.t0 hw9)).ff ho10
      have tx10 := (tx8.only hw9).far ho10 (fun hm => by have := hF2 _ hm; omega) (fun k hk => (nX k hk).2)
      have hp10 := hp8
      conv => whnf
      refine VIf.dec (fun hneg => ?_) (fun hneg => ?_)
      · conv => whnf
        rw [if_pos hneg] at hres
        rw [hres]
        exact Ends.none_ h10 how10 (fun k hk => (nF' k hk).imp id (fun h => by omega))
      rw [if_neg hneg] at hres
      obtain ⟨i, hi, ei⟩ := mapped_idx hneg
      generalize hz' : (mappedS s1 p.src (wordL p.data 0)).2 = z at *
      rw [ei] at hres ⊢
      rw [portOf_nat hi, useM_nat hi] at hres
      have h10' := h10
      obtain ⟨A1', n1', c1', F1', A2', n2', c2', F2', A3', n3', c3', F3', hb10, hr10, rfl⟩ := h10'
      dsimp only at hb10
      have hn1 : z.length = n1' := hr10.m.sl.num nmC_len (by decide)
      obtain ⟨g1, cur1, eF1, eA1, hbg, -, -⟩ := hr10.m.blk (by have := hr10.m.le.1; omega)
      subst eF1
      subst eA1
      conv => whnf
      refine VDraw.abs fun N4 hN4 => ?_
      refine VDraw.tail 11 (by kernel_rfl) (by kernel_rfl) ?_
      conv => whnf
      refine ⟨_, fun w' hw' => hw' ▸ Loads.one (by kernel_rfl) (Blk.ntM (Blk.drew hb10) okc), ?_⟩
      conv => whnf
      refine ⟨_, fun w' hw' => hw' ▸ Loads.one (by kernel_rfl) (Blk.ntNow (Blk.drew hb10) okc), ?_⟩
      conv => whnf
      refine ⟨_, _, rfl, i, i * 20, rfl, by omega, (Nat.zero_add _).symm, ?_⟩
      conv => whnf
      obtain ⟨hst, hm11, ho11⟩ := Row.putAt (P := Tryz.prog) (t := 2) (i := i) (j := 19) (x := { z[i] with used := s1.now }) (v := .int .i64 s1.now) hr10.m.drew nmC_len (by kernel_rfl) rfl hi hn1 (by decide) (nmC_used _ _)
      refine ⟨_, hst, ?_⟩
      generalize World.setCell w10.drew ⟨g1, i * 20 + 19, none⟩ (.int .i64 s1.now) = w11 at *
      have gT : T ∉ [g1] := hr10.m.ne_blk hb10 (by decide)
      have hb11 := hb10.drew.only ho11 gT
      have ho11' := hr10.o.drew.only ho11 (fun k hk h => hr10.m.ne_row hr10.o (by decide) k h hk)
      have hi11 := hr10.i.drew.only ho11 (fun k hk h => hr10.m.ne_row hr10.i (by decide) k h hk)
      have hd11 := hr10.d
      have ng1 : g1 ∈ T :: (F1 ++ (F2 ++ F3)) ∨ w8.heap.size ≤ g1 := nF' g1 (by simp)
      have how11 : Only (T :: (F1 ++ (F2 ++ F3))) w w11 := how10.drew.trans ho11 (fun k hk => by
        obtain rfl : k = g1 := by simpa using hk
        exact ng1.imp id (fun h => by omega))
      have xF' : ∀ k ∈ T :: ([g1] ++ (F2' ++ F3')), k ∉ FX := fun k hk hx => by
        rcases nF' k hk with h | h
        · exact (nX k hx).2 h
        · have := tx8.lt k hx; omega
      have gq8 : q8 ∉ [g1] := fun hm => by
        obtain rfl : q8 = g1 := by simpa using hm
        rcases ng1 with h | h
        · exact nF8 h
        · omega
      have gq10 : q10 ∉ T :: ([g1] ++ (F2' ++ F3')) := fun hm => by
        have := tx8.blk.lt
        rcases nF' _ hm with h | h
        · have := hF2 _ h; omega
        · omega
      have tx11 := (tx10.only ((Only.refl [] w10).drew)).far ho11 (fun hm => gq10 (by simp at hm; simp [hm])) (fun k hk hm => xF' k (by simp at hm; simp [hm]) hk)
      have b811 := b810.drew.only ho11 gq8
      have h11 : St w11 T ⟨s1.cf, s1.now, z.set i { z[i] with used := s1.now }, s1.outs, s1.ins⟩ (T :: ([g1] ++ (F2' ++ F3'))) := ⟨_, n1', c1', [g1], A2', n2', c2', F2', A3', n3', c3', F3', hb11, ⟨hm11, ho11', hi11, hd11⟩, rfl⟩
      conv => whnf
      refine hN4 _ _ ?_
      conv => whnf
      refine VJoin.go (by kernel_rfl) ?_
      conv => whnf
      refine ⟨_, Loads.one (by kernel_rfl) (b811.pkMore okp), ?_⟩
      conv => whnf
      refine VIf.of (b := p.more) (fun hmore => ?_) (fun hmore => ?_)
      rotate_left
      · rw [if_neg (by rw [hmore]; decide)] at hres
        conv => whnf
        refine VDraw.abs fun N9 hN9 => ?_
        refine VDraw.tail 14 (by kernel_rfl) (by kernel_rfl) ?_
        conv => whnf
        refine ⟨.agg ⟨adC s1.cf.outside⟩, fun w' hw' => ?_, ?_⟩
        · have e : w' = _ := hw'
          subst e
          exact Blk.ntOutside (Blk.drew hb11) okc
        conv => whnf
        refine ⟨_, fun w' (hw' : w' = _) => hw' ▸ Loads.one (by kernel_rfl) (Blk.ntM (Blk.drew hb11) okc), ?_⟩
        conv => whnf
        refine ⟨_, _, rfl, i, i * 20, rfl, by omega, (Nat.zero_add _).symm, ?_⟩
        conv => whnf
        have hcell := (hm11.drew.sl).ld (k := i * 20 + 18) (v := .int .i64 z[i].out) (by
          rw [flat_get nmC_len _ i 18 (by rw [List.length_set]; exact hi) (by decide), List.getElem_set_self, nmC_out])
        rw [Nat.zero_add] at hcell
        refine ⟨_, fun w' (hw' : w' = _) => hw' ▸ Loads.one (by kernel_rfl) hcell, ?_⟩
        conv => whnf
        refine (end_does (k := 12) (tx11.only ((Only.refl [] _).drew)) (.inl rfl) h20 (by omega) okc.outside).mono ?_
        rintro v w14 ⟨rfl, tx14, ho14⟩
        have hEnd : Ends w w14 T (T :: (F1 ++ (F2 ++ F3))) (.tuple ⟨[.slice X (endL l 12 s1.cf.outside z[i].out (headL l)).length cx, .int .i64 0]⟩) (outR s1 p l) := by
          rw [hres]
          exact Ends.ok tx14 ((h11.o ((Only.refl [] _).drew)).only ho14 xF') ((how11.drew).trans ho14 (fun k hk => .inr (nX k hk).1)) (fun k hk => (nF' k hk).imp id (fun h => by omega)) (fun k hk => ⟨(nX k hk).1, fun hm => xF' k hm hk⟩)
        clear hres
        conv => whnf
        refine hN9 _ _ ?_
        conv => whnf
        refine ⟨_, Loads.one (by kernel_rfl) (tx14.blk.at (i := 0) rfl), ?_⟩
        conv => whnf
        exact hEnd
      rw [if_pos hmore] at hres
      conv => whnf
      have n2l : n2' ≤ 1000000 := by
        have e1 : s1.outs.length = n2' := hr10.o.sl.num ntC_len (by decide)
        have e2 := ok1.nouts
        have e3 := ok1.cparts
        omega
      have q82 : q8 ∉ F2' := fun hm => by
        rcases nF' q8 (by simp [hm]) with h | h
        · exact nF8 h
        · omega
      have t2' : T ∉ F2' := hr10.o.ne_blk hb10 (by decide)
      have t3' : T ∉ F3' := hr10.i.ne_blk hb10 (by decide)
      refine VDraw.abs fun N5 hN5 => ?_
      refine VDraw.ahead 12 (fun w' => Blk w' q8 56 ⟨pkC p O D⟩) (fun w' => Blk w' T 103 ⟨natC s1.cf s1.now (.slice (some ⟨g1, 0, none⟩) n1' c1') (.slice A2' n2' c2') (.slice A3' n3' c3')⟩) [0, 1, 2, 3, 4, 5, 6, 7, 8, 9, 10, 11, 12] (by kernel_rfl) (by kernel_rfl) b811.drew hb11.drew ?_
      conv => whnf
      refine ⟨_, fun w' hw' => Loads.one (by kernel_rfl) (hw'.2.ntO okc), ?_⟩
      conv => whnf
      refine ⟨_, fun w' hw' => Blk.pkAll hw'.1 okp, ?_⟩
      conv => whnf
      refine ⟨_, fun w' hw' => Blk.pkSrc hw'.1 okp, ?_⟩
      conv => whnf
      refine (noted_does hb11.drew okc ho11'.drew t2' n2l okp hkey ok1.outs okp.src).mono ?_
      rintro v w12 ⟨A5, n5, c5, F5, rfl, hr12, ho12, hF5⟩
      have b812 := b811.drew.only ho12 q82
      have hb12 := hb11.drew.only ho12 t2'
      refine ⟨⟨b812, fun _ => hb12⟩, ?_⟩
      have hm12 := hm11.drew.only ho12 (fun k hk h => hr10.m.ne_row hr10.o (by decide) k hk h)
      have hi12 := hi11.drew.only ho12 (fun k hk h => hd11 k h hk)
      conv => whnf
      refine vStore.one hb12 (by kernel_rfl) rfl (i := 43) (u := .slice A2' n2' c2') ((nat_tail okc 8).trans rfl) (fun hb13 ho13 => ?_)
      rw [natC_setO okc] at hb13
      have nT8 : q8 ∉ [T] := fun hm => nF8 (by simp at hm; simp [hm])
      refine ⟨⟨b812.only ho13 nT8, fun h => Bool.noConfusion h⟩, ?_⟩
      have nT : ∀ {F : List Nat}, T ∉ F → ∀ k ∈ F, k ∉ [T] := fun ht k hk h => by
        obtain rfl : k = T := by simpa using h
        exact ht hk
      have tF5 : T ∉ F5 := hr12.ne_blk hb12 (by decide)
      have hm13 := hm12.only ho13 (nT gT)
      have ho13' := hr12.only ho13 (nT tF5)
      have hi13 := hi12.only ho13 (nT t3')
      have z811 : w8.heap.size ≤ w11.heap.size := Nat.le_trans hw9.size (Nat.le_trans ho10.size ho11.size)
      have d53 : ∀ k ∈ F5, k ∉ F3' := fun k hk hm => by
        rcases hF5 k hk with h | h
        · exact hd11 k h hm
        · have := hi11.lt k hm
          have : w11.drew.heap.size = w11.heap.size := rfl
          omega
      have h13 : St _ T ⟨s1.cf, s1.now, z.set i { z[i] with used := s1.now }, notedL s1.cf.parts s1.now s1.outs (kyP p) p.src, s1.ins⟩ (T :: ([g1] ++ (F5 ++ F3'))) := ⟨_, n1', c1', [g1], A5, n5, c5, F5, A3', n3', c3', F3', hb13, ⟨hm13, ho13', hi13, d53⟩, rfl⟩
      have nF5 : ∀ k ∈ T :: ([g1] ++ (F5 ++ F3')), k ∈ T :: ([g1] ++ (F2' ++ F3')) ∨ w11.heap.size ≤ k := fun k hk => by
        simp only [List.mem_cons, List.mem_append] at hk ⊢
        rcases hk with hk | hk | hk | hk
        · exact .inl (.inl hk)
        · exact .inl (.inr (.inl hk))
        · rcases hF5 k hk with h | h
          · exact .inl (.inr (.inr (.inl h)))
          · exact .inr h
        · exact .inl (.inr (.inr (.inr hk)))
      have xF5 : ∀ k ∈ T :: ([g1] ++ (F5 ++ F3')), k ∉ FX := fun k hk hx => by
        rcases nF5 k hk with h | h
        · exact xF' k h hx
        · have := tx8.lt k hx; omega
      have nF13 : ∀ k ∈ T :: ([g1] ++ (F5 ++ F3')), k ∈ T :: (F1 ++ (F2 ++ F3)) ∨ w.heap.size ≤ k := fun k hk => by
        rcases nF5 k hk with h | h
        · exact (nF' k h).imp id (fun h => by omega)
        · exact .inr (by omega)
      have how13 := (how11.drew.trans ho12 (fun k hk => (nF' k (by simp [hk])).imp id (fun h => by omega))).trans ho13 (fun k hk => .inl (by simp at hk; simp [hk]))
      have tx13 := ((tx11.only ((Only.refl [] w11).drew)).far ho12 (fun hm => gq10 (by simp [hm])) (fun k hk hm => xF' k (by simp [hm]) hk)).far ho13 (fun hm => gq10 (by simp at hm; simp [hm])) (fun k hk hm => nXT (by simp at hm; exact hm ▸ hk))
      refine hN5 _ _ ?_
      conv => whnf
      refine VDraw.abs fun N9 hN9 => ?_
      refine VDraw.tail 14 (by kernel_rfl) (by kernel_rfl) ?_
      conv => whnf
      refine ⟨.agg ⟨adC s1.cf.outside⟩, fun w' hw' => ?_, ?_⟩
      · have e : w' = _ := hw'
        subst e
        exact Blk.ntOutside (Blk.drew hb13) okc
      conv => whnf
      refine ⟨_, fun w' (hw' : w' = _) => hw' ▸ Loads.one (by kernel_rfl) (Blk.ntM (Blk.drew hb13) okc), ?_⟩
      conv => whnf
      refine ⟨_, _, rfl, i, i * 20, rfl, by omega, (Nat.zero_add _).symm, ?_⟩
      conv => whnf
      have hcell := (hm13.drew.sl).ld (k := i * 20 + 18) (v := .int .i64 z[i].out) (by
        rw [flat_get nmC_len _ i 18 (by rw [List.length_set]; exact hi) (by decide), List.getElem_set_self, nmC_out])
      rw [Nat.zero_add] at hcell
      refine ⟨_, fun w' (hw' : w' = _) => hw' ▸ Loads.one (by kernel_rfl) hcell, ?_⟩
      conv => whnf
      refine (end_does (k := 12) (tx13.only ((Only.refl [] _).drew)) (.inl rfl) h20 (by omega) okc.outside).mono ?_
      rintro v w14 ⟨rfl, tx14, ho14⟩
      have hEnd : Ends w w14 T (T :: (F1 ++ (F2 ++ F3))) (.tuple ⟨[.slice X (endL l 12 s1.cf.outside z[i].out (headL l)).length cx, .int .i64 0]⟩) (outR s1 p l) := by
        rw [hres]
        exact Ends.ok tx14 ((h13.o ((Only.refl [] _).drew)).only ho14 xF5) ((how13.drew).trans ho14 (fun k hk => .inr (nX k hk).1)) nF13 (fun k hk => ⟨(nX k hk).1, fun hm => xF5 k hm hk⟩)
      clear hres
      conv => whnf
      refine hN9 _ _ ?_
      conv => whnf
      refine ⟨_, Loads.one (by kernel_rfl) (tx14.blk.at (i := 0) rfl), ?_⟩
      conv => whnf
      exact hEnd
  · rw [if_neg h17] at hres
    conv => whnf
    refine hN2 _ _ ?_
    conv => whnf
    refine ⟨_, Loads.one (by kernel_rfl) (b88.pkProto okp), ?_⟩
    conv => whnf
    refine VIf.eq (fun h17' => (h17 h17').elim) (fun _ => ?_)
    conv => whnf
    refine ⟨_, b88.pkAll okp, ?_⟩
    conv => whnf
    refine (quoted_does hp8).mono ?_
    rintro v w9 ⟨hQ, ho9⟩
    have tx9 := tx8.only ho9
    have hb9 := hb8.only ho9 (by simp)
    have hr9 := hr8.only ho9 (by simp)
    have hw9 := hw8.t0 ho9
    rcases hQ with ⟨hq, rfl⟩ | ⟨hq, X', Y', qn, qc, qm, qd, QG, rfl, hQ1, hQ2, hQ3, hQ4, hQ5, hQ6⟩
    · rw [if_pos hq] at hres
      conv => whnf
      refine vStore.fresh (cs := quC none none 0 0 0 0) (by kernel_rfl) (by kernel_rfl) (one_quC _ _ _ _ _ _) (fun w10 b14 ho10 _ => ?_)
      conv => whnf
      refine VJoin.go (by kernel_rfl) ?_
      conv => whnf
      exact hfail _ _ (hw9.t0 ho10) hres
    rw [if_neg (by rw [hq]; decide)] at hres
    obtain ⟨f1, f2, f3⟩ := quoted_facts hq
    have hqn : qn = qN p := by
      have := hQ1.len
      rw [List.length_take] at this
      omega
    have hqm : (qL p).length - qN p = qm := by
      have := hQ2.len
      rwa [List.length_drop] at this
    conv => whnf
    refine vStore.fresh (cs := quC X' Y' qn qc qm qd) (by kernel_rfl) (by kernel_rfl) (one_quC _ _ _ _ _ _) (fun w10 b14 ho10 _ => ?_)
    have hb10 := hb9.only ho10 (by simp)
    have hr10 := hr9.only ho10 (by simp)
    have tx10 := tx9.only ho10
    have hQ1 := hQ1.o ho10
    have hQ2 := hQ2.o ho10
    have hw10 := hw9.t0 ho10
    conv => whnf
    refine VJoin.go (by kernel_rfl) ?_
    conv => whnf
    refine VDraw.abs fun N3 hN3 => ?_
    refine VDraw.q (by kernel_rfl) (by kernel_rfl) ?_
    conv => whnf
    refine ⟨_, fun w' hw' => Loads.all (b14.only hw' (by simp)) (by kernel_rfl) (by kernel_rfl), ?_⟩
    conv => whnf
    refine ⟨_, fun w' hw' => (qaddress_does (k := 16) (hQ1.o hw') hQ3 hQ4 (by omega)).q hw', ?_⟩
    conv => whnf
    refine ⟨_, fun w' hw' => Loads.all (b14.only hw' (by simp)) (by kernel_rfl) (by kernel_rfl), ?_⟩
    conv => whnf
    refine ⟨_, fun w' hw' => (qport_does (k := 16) (hQ2.o hw') (.inr rfl) (by omega) (by omega)).q hw', ?_⟩
    have okq : okAd (qaddrA ((qL p).take (qN p)) 16) := okAd4 (by
      rw [List.length_append, List.length_take, List.length_drop, List.length_take]
      simp
      omega)
    conv => whnf
    refine ⟨_, fun w' hw' => (ofEnd_does (hb10.only hw' (by simp)) okc okq (hr10.m.sl.o hw') ok1.maps (by have := hr10.m.le; have := hr10.m.le.2; unfold maxLen at this; omega)).q hw', ?_⟩
    conv => whnf
    intro w11 ho11
    have hb11 := hb10.only ho11 (by simp)
    have hr11 := hr10.only ho11 (by simp)
    have tx11 := tx10.only ho11
    have hw11 := hw10.t0 ho11
    conv => whnf
    refine hN3 _ _ ?_
    conv => whnf
    refine VIf.dec (fun hneg => ?_) (fun hneg => ?_)
    · rw [if_pos hneg] at hres
      conv => whnf
      exact hfail _ _ hw11 hres
    rw [if_neg hneg] at hres
    obtain ⟨i, hi, ei⟩ : ∃ i, i < s1.maps.length ∧ idxI (endIs (qaddrA ((qL p).take (qN p)) 16) (wordL ((qL p).drop (qN p)) 2)) s1.maps = (i : Nat) := by
      rcases idxI_bd (endIs (qaddrA ((qL p).take (qN p)) 16) (wordL ((qL p).drop (qN p)) 2)) s1.maps with h1 | h1
      · have hneg : ¬ idxI (endIs (qaddrA ((qL p).take (qN p)) 16) (wordL ((qL p).drop (qN p)) 2)) s1.maps < 0 := hneg
        exact ⟨(idxI (endIs (qaddrA ((qL p).take (qN p)) 16) (wordL ((qL p).drop (qN p)) 2)) s1.maps).toNat, by omega, by omega⟩
      · exact absurd (by rw [h1]; decide) hneg
    rw [ei, portOf_nat hi] at hres
    conv => whnf
    refine ⟨_, hb11.ntOutside okc, ?_⟩
    conv => whnf
    refine (address_does (k := 12) tx11 (by omega) (by omega) okc.outside).mono ?_
    rintro v w12 ⟨rfl, tx12, ho12⟩
    have hb12 := hb11.only ho12 nXT
    have hr12 := hr11.only ho12 (fun k hk hm => (nX k hm).2 (List.mem_cons_of_mem _ hk))
    have e12 := addressL_len l 12 s1.cf.outside
    have hdl : (qL p).length = l.length - headL l - 8 := by
      unfold qL
      rw [hdat, List.length_drop, List.length_drop]
    have hua : udpAt (addressL l 12 s1.cf.outside) (headL l) = headL l + 8 + qN p := by
      have : udpAt (addressL l 12 s1.cf.outside) (headL l) = udpAt l (headL l) := by
        unfold udpAt
        rw [addressL_getD (.inl rfl) (by omega)]
      rw [this, udpAt_e hdat]
    conv => whnf
    refine VDraw.abs fun N9 hN9 => ?_
    refine VDraw.tail 14 (by kernel_rfl) (by kernel_rfl) ?_
    conv => whnf
    refine ⟨.agg ⟨adC s1.cf.outside⟩, fun w' hw' => ?_, ?_⟩
    · have e : w' = _ := hw'
      subst e
      exact Blk.ntOutside (Blk.drew hb12) okc
    conv => whnf
    refine ⟨_, fun w' (hw' : w' = _) => hw' ▸ Loads.one (by kernel_rfl) (Blk.ntM (Blk.drew hb12) okc), ?_⟩
    have hn1 : s1.maps.length = n1 := hr12.m.sl.num nmC_len (by decide)
    obtain ⟨g1, cur1, eF1, eA1, -, -, -⟩ := hr12.m.blk (by have := hr12.m.le.1; omega)
    rw [eA1]
    have hrm := hr12.m
    rw [eA1] at hrm
    conv => whnf
    rw [ei]
    refine ⟨_, _, rfl, i, i * 20, rfl, by omega, (Nat.zero_add _).symm, ?_⟩
    conv => whnf
    have hcell := (hrm.drew.sl).ld (k := i * 20 + 18) (v := .int .i64 s1.maps[i].out) (by
      rw [flat_get nmC_len _ i 18 hi (by decide), nmC_out])
    rw [Nat.zero_add] at hcell
    refine ⟨_, fun w' (hw' : w' = _) => hw' ▸ Loads.one (by kernel_rfl) hcell, ?_⟩
    conv => whnf
    refine (quote_does (k := 16) (tx12.only ((Only.refl [] w12).drew)) (.inr rfl) h20 (by omega) (by omega) okc.outside).mono ?_
    rintro v w14 ⟨rfl, tx14, ho14⟩
    have h12 := (hsame _ hw11).1.only ho12 (fun k hk hm => (nX k hm).2 hk)
    have how12 := (hsame _ hw11).2.trans ho12 (fun k hk => .inr (nX k hk).1)
    have hEnd : Ends w w14 T (T :: (F1 ++ (F2 ++ F3))) (.tuple ⟨[.slice X (quoteL (addressL l 12 s1.cf.outside) 16 s1.cf.outside s1.maps[i].out (headL l)).length cx, .int .i64 0]⟩) (outR s1 p l) := by
      rw [hres]
      exact Ends.ok tx14 ((h12.o ((Only.refl [] w12).drew)).only ho14 (fun k hk hm => (nX k hm).2 hk)) ((how12.drew).trans ho14 (fun k hk => .inr (nX k hk).1)) (fun k hk => .inl hk) nX
    clear hres
    conv => whnf
    refine hN9 _ _ ?_
    conv => whnf
    refine ⟨_, Loads.one (by kernel_rfl) (tx14.blk.at (i := 0) rfl), ?_⟩
    conv => whnf
    exact hEnd
end Go.Proofs.YtofomopdaponbaaGreatDoor
