/-
  What comes in (package nat: In).
-/
import Derived.Test.YtofomopdaponbaaGreatDoorYNou
namespace Go.Proofs.YtofomopdaponbaaGreatDoor
open Go.RowKit
set_option linter.unusedVariables false
set_option linter.unusedSimpArgs false

def outIs (port : Int) (m : Nm) : Bool := m.out == port
def cameR (s : NatS) (p : Pk) (l : List UInt8) : Int × List UInt8 × NatS :=
  if (decide (p.dst = s.cf.outside) && outsideA s.cf p.src) = false then (300, [], s)
  else if p.proto = 17 then
    if p.off > 0 then
      if (recA (kyP p) s.ins).2 = false then (301, [], s) else (0, addressL l 16 (recA (kyP p) s.ins).1, s)
    else if p.data.length < 8 then (20, [], s)
    else match s.maps.find? (outIs (wordL p.data 2)) with
      | none => (301, [], s)
      | some m => (0, endL l 16 m.addr m.port (headL l), ⟨s.cf, s.now, s.maps, s.outs, if p.more = true then notedL s.cf.parts s.now s.ins (kyP p) m.addr else s.ins⟩)
  else if (quotedB p && decide (qaddrA ((qL p).take (qN p)) 12 = s.cf.outside)) = false then (301, [], s)
  else match s.maps.find? (outIs (wordL ((qL p).drop (qN p)) 0)) with
    | none => (301, [], s)
    | some m => (0, quoteL (addressL l 16 m.addr) 12 m.addr m.port (headL l), s)
def cameS (s : NatS) (now : Int) (l : List UInt8) : Int × List UInt8 × NatS :=
  if beginE s now l ≠ 0 then (beginE s now l, [], (passesS s now).2) else cameR (passesS s now).2 (parseP l) l
theorem find_idx {α : Type} (f : α → Bool) (z : List α) : (idxI f z < 0 ∧ z.find? f = none) ∨ ∃ i, ∃ h : i < z.length, idxI f z = (i : Nat) ∧ z.find? f = some z[i] := by
  unfold idxI
  split
  · rename_i i hi
    obtain ⟨h1, h2, h3⟩ := List.findIdx?_eq_some_iff_getElem.1 hi
    exact .inr ⟨i, h1, rfl, List.find?_eq_some_iff_getElem.2 ⟨h2, i, h1, rfl, fun j hj => by simpa using h3 j hj⟩⟩
  · rename_i hn
    exact .inl ⟨by decide, List.find?_eq_none.2 (fun x hx => by rw [List.findIdx?_eq_none_iff.1 hn x hx]; decide)⟩
theorem okAdC {x y : Ad} (h : okAd x) (h' : okAd y) : True := trivial
set_option maxRecDepth 100000 in
theorem in_does {w : World} {T : Nat} {s : NatS} {F G : List Nat} {A : Option Addr} {n c : Nat} {l : List UInt8} {now : Int} (h : St w T s F) (ok : okS s) (hl : Bs w G A n l) (hG : ∀ k ∈ G, k ∉ F) (hs : Shp w) (hsF : 1 ∉ F) (hn : n ≤ 140737488355328) (hc : n ≤ c) (hcm : c ≤ 9223372036854775807) :
    Does Tryz.prog 15 [.pointer (some ⟨T, 0, none⟩), .slice A n c, .int .i64 now] w (fun v w' => Ends w w' T F v (cameS s now l)) := by
  have hll := hl.len
  have hcf := passes_cf s now
  have ok1 := passes_ok ok now
  refine Does.enter (fn := Tryz.f15) (by kernel_rfl) rfl (by kernel_rfl) (by kernel_rfl) ?_
  conv => whnf
  refine (begin_does h ok hl hG hs hsF hn hc hcm).mono ?_
  rintro v w2 ⟨O, D, rfl, hp2, h2, ho2⟩
  have okp := hp2.ok
  have hpl := pk_len (O := O) (D := D) okp
  conv => whnf
  refine vStore.fresh (cs := pkC (beginP s now l) O D) (by rw [hpl]; kernel_rfl) (by rw [hpl]; kernel_rfl) (one_pkC _ _ _) (fun w3 b8 ho3 hz3 => ?_)
  have hF2 : ∀ k ∈ F, k < w2.heap.size := h2.lt
  have hbn : w.heap.size ≤ w2.heap.size := ho2.size
  generalize hq8 : w2.heap.size = q8 at *
  have h3 := h2.o ho3
  have hp3 := hp2.o ho3
  have how3 : Only F w w3 := ho2.f0 ho3
  conv => whnf
  refine VIf.ne (fun hE => ?_) (fun hE => ?_)
  · conv => whnf
    have hres : cameS s now l = (beginE s now l, [], (passesS s now).2) := if_pos hE
    rw [hres]
    exact Ends.none_ h3 how3 (fun k hk => .inl hk)
  have hPE : (passesS s now).1 = true ∧ parseE l = 0 := by
    unfold beginE at hE
    split at hE
    · rename_i e
      exact ⟨e, hE⟩
    · exact absurd hE (by decide)
  have hP := parse_ok hPE.2
  have hbP : beginP s now l = parseP l := if_pos hPE.1
  have hres : cameS s now l = cameR (passesS s now).2 (parseP l) l := if_neg (fun h => h hE)
  rw [hbP] at hp3 b8 okp hpl ⊢
  generalize hs1 : (passesS s now).2 = s1 at *
  rw [hres]
  clear hres
  have hhd := hP.head
  have hkey := hP.key
  have h20 := hP.h20
  have h60 := hP.h60
  have hlen := hP.len
  have hdat : (parseP l).data = l.drop (headL l) := by rw [hP.e]; rfl
  have hmax := hP.max
  clear hP hbP
  generalize parseP l = p at *
  have okc : okCf s1.cf := ok1.cf
  have nF8 : q8 ∉ F := fun h => Nat.lt_irrefl _ (hF2 _ h)
  have hsame : ∀ w', Only [] w3 w' → St w' T s1 F ∧ Only F w w' := fun w' ho => ⟨h3.o ho, how3.f0 ho⟩
  have h3' := h3
  obtain ⟨A1, n1, c1, F1, A2, n2, c2, F2, A3, n3, c3, F3, hb, hr, rfl⟩ := h3'
  have hfail : ∀ (w' : World) (e : Int), Only [] w3 w' → cameR s1 p l = (e, [], s1) → Ends w w' T (T :: (F1 ++ (F2 ++ F3))) (.tuple ⟨[.slice none 0 0, .int .i64 e]⟩) (cameR s1 p l) := fun w' e ho h => by
    rw [h]
    exact Ends.none_ (hsame w' ho).1 (hsame w' ho).2 (fun k hk => .inl hk)
  conv => whnf
  refine VDraw.abs fun N0 hN => ?_
  refine VDraw.q (by kernel_rfl) (by kernel_rfl) ?_
  conv => whnf
  refine ⟨_, fun w' hw' => (b8.only hw' (by simp)).pkDst okp, ?_⟩
  conv => whnf
  refine ⟨_, fun w' hw' => (hb.only hw' (by simp)).ntOutside okc, ?_⟩
  conv => whnf
  refine ⟨_, eql_ad okp.dst okc.outside _ _, ?_⟩
  conv => whnf
  refine VIf.not (VIf.of (b := decide (p.dst = s1.cf.outside)) (fun hi1 => ?_) (fun hi1 => ?_))
  rotate_left
  · conv => whnf
    intro w5 hw5
    conv => whnf
    refine hN _ _ ?_
    conv => whnf
    exact hfail _ _ hw5 (by unfold cameR; rw [if_pos (by rw [hi1]; rfl)])
  conv => whnf
  refine ⟨_, fun w' hw' => (b8.only hw' (by simp)).pkSrc okp, ?_⟩
  conv => whnf
  refine ⟨_, fun w' hw' => (outside_does (hb.only hw' (by simp)) okc okp.src).q hw', ?_⟩
  conv => whnf
  intro w5 hw5
  conv => whnf
  refine hN _ _ ?_
  have b85 := b8.only hw5 (by simp)
  have hb5 := hb.only hw5 (by simp)
  conv => whnf
  refine VIf.not (VIf.of (b := outsideA s1.cf p.src) (fun hi2 => ?_) (fun hi2 => ?_))
  rotate_left
  · conv => whnf
    exact hfail _ _ hw5 (by unfold cameR; rw [if_pos (by rw [hi2, Bool.and_false])])
  have hres : cameR s1 p l = cameR s1 p l := rfl
  conv at hres => rhs; unfold cameR
  rw [if_neg (by rw [hi1, hi2]; decide)] at hres
  have how5 := how3.f0 hw5
  have hl5 := hl.only how5 hG
  have hs5 : Shp w5 := hs.only how5 hsF
  have hp5 := hp3.o hw5
  conv => whnf
  refine VDraw.abs fun N1 hN1 => ?_
  refine VDraw.held (fun w' => Blk w' q8 56 ⟨pkC p O D⟩) [0, 2, 1, 3, 4, 5, 6] (by kernel_rfl) (by kernel_rfl) b85.drew ?_
  conv => whnf
  refine ⟨_, fun w' hw' => Blk.pkAll hw' okp, ?_⟩
  conv => whnf
  refine (cloneB_does (Bs.only (w' := w5.drew) hl5 ((Only.refl [] w5).drew) (by simp)) hn).mono ?_
  rintro v w6 ⟨X, nx, cx, FX, rfl, hrx, ho6, hFX⟩
  have hw6 : Only [] w5 w6 := ((Only.refl [] w5).drew).t0 ho6
  have b86 := b85.only hw6 (by simp)
  refine ⟨b86, ?_⟩
  conv => whnf
  refine (head_does (hp5.o hw6) (hs5.o hw6)).mono ?_
  rintro v w7 ⟨rfl, ho7⟩
  have b87 := b86.only ho7 (by simp)
  refine ⟨b87, ?_⟩
  conv => whnf
  refine ⟨b87.alloc _, ?_⟩
  conv => whnf
  obtain rfl := (Row.bs hrx).len
  refine hN1 _ (w7.alloc (.cells ⟨[.slice X l.length cx, .int .i64 (headP p)]⟩ 114)) ?_
  rw [hhd]
  have hw7 : Only [] w3 w7 := (hw5.t0 hw6).t0 ho7
  have hw8 := hw7.alloc (.cells ⟨[.slice X l.length cx, .int .i64 (headL l)]⟩ 114)
  have tx8 : Tx (w7.alloc (.cells ⟨[.slice X l.length cx, .int .i64 (headL l)]⟩ 114)) w7.heap.size FX X cx l (headL l) :=
    ⟨Blk.new _ _ _, (hrx.only ho7 (by simp)).alloc _, fun hm => by have := hrx.lt _ hm; have := ho7.size; omega, by omega, by omega⟩
  have b88 := b87.alloc (.cells ⟨[.slice X l.length cx, .int .i64 (headL l)]⟩ 114)
  have z35 : w3.heap.size ≤ w5.heap.size := hw5.size
  have z37 : w3.heap.size ≤ w7.heap.size := hw7.size
  have hX8 : ∀ k ∈ FX, q8 < k := fun k hk => by
    have := hFX k hk
    have : (w5.drew).heap.size = w5.heap.size := rfl
    omega
  have nX : ∀ k ∈ FX, w.heap.size ≤ k ∧ k ∉ T :: (F1 ++ (F2 ++ F3)) := fun k hk => ⟨by have := hX8 k hk; omega, fun hm => by have := hX8 k hk; have := hF2 k hm; omega⟩
  have nX8 : q8 ∉ FX := fun h => Nat.lt_irrefl _ (hX8 _ h)
  have nXT : T ∉ FX := fun h => (nX _ h).2 (by simp)
  generalize hq10 : w7.heap.size = q10 at *
  generalize w7.alloc (.cells ⟨[.slice X l.length cx, .int .i64 (headL l)]⟩ 114) = w8 at *
  have hb8 := hb.only hw8 (by simp)
  have hr8 := hr.only hw8 (by simp)
  have hp8 := hp3.o hw8
  conv => whnf
  refine ⟨_, Loads.one (by kernel_rfl) (b88.pkProto okp), ?_⟩
  refine splitB.abs fun N2 hN2 => ?_
  conv => whnf
  refine VIf.eq (fun h17 => ?_) (fun h17 => ?_)
  · rw [if_pos h17] at hres
    conv => whnf
    refine ⟨_, Loads.one (by kernel_rfl) (b88.pkOff okp), ?_⟩
    conv => whnf
    refine hN2 _ _ ?_
    conv => whnf
    refine VIf.dec (fun hoff => ?_) (fun hoff => ?_)
    · rw [if_pos hoff] at hres
      conv => whnf
      refine VDraw.abs fun N3 hN3 => ?_
      refine VDraw.tree 9 (fun w' => Blk w' q8 56 ⟨pkC p O D⟩ ∧ Blk w' T 103 ⟨natC s1.cf s1.now (.slice A1 n1 c1) (.slice A2 n2 c2) (.slice A3 n3 c3)⟩) (fun _ => True) (.one 0 (.one 1 (.one 2 (.one 3 (.one 4 (.two 5 (.one 6 (.one 7 (.one 8 (.one 9 (.one 10 (.one 11 .done)))))) 9 (.one 5 (.one 6 (.one 7 (.one 8 (.one 10 (.one 11 .done))))))))))) ) (by kernel_rfl) (by kernel_rfl) ⟨b88.drew, hb8.drew⟩ trivial ?_
      conv => whnf
      refine ⟨_, fun w' hw' => Loads.one (by kernel_rfl) (hw'.2.ntI okc), ?_⟩
      conv => whnf
      refine ⟨_, fun w' hw' => Blk.pkAll hw'.1 okp, ?_⟩
      have okA : okAd (recA (kyP p) s1.ins).1 := by
        unfold recA
        split
        · rename_i x hx
          exact (ok1.ins x (List.mem_of_find?_eq_some hx)).2
        · exact zeroA_ok
      conv => whnf
      refine ⟨?_, ?_⟩
      · conv => whnf
        refine (recalled_does (hr8.i.drew.sl) (by have := hr8.i.le; have := hr8.i.le.2; unfold maxLen at this; omega) okp hkey ok1.ins).mono ?_
        rintro v w9 ⟨rfl, ho9⟩
        have hw9 : Only [] w8 w9 := ((Only.refl [] w8).drew).t0 ho9
        have b89 := b88.only hw9 (by simp)
        have hb9 := hb8.only hw9 (by simp)
        refine ⟨⟨⟨b89, hb9⟩, fun _ => trivial⟩, ?_⟩
        conv => whnf
        refine ⟨⟨⟨b89.alloc _, hb9.alloc _⟩, fun _ => trivial⟩, ?_⟩
        conv => whnf
        refine vStore.fresh (cs := adC (recA (kyP p) s1.ins).1) (by rw [adC_len okA]; kernel_rfl) (by rw [adC_len okA]; kernel_rfl) (one_adC _) (fun w10 b11 ho10 _ => ?_)
        have hw10 := hw9.t0 ho10
        refine ⟨⟨⟨b89.only ho10 (by simp), hb9.only ho10 (by simp)⟩, fun _ => trivial⟩, ?_⟩
        conv => whnf
        refine hN3 _ _ ?_
        have tx10 := tx8.only hw10
        have h10 := hsame _ (hw8.t0 hw10)
        conv => whnf
        refine VIf.not (VIf.of (b := (recA (kyP p) s1.ins).2) (fun hk => ?_) (fun hk => ?_))
        rotate_left
        · rw [if_pos hk] at hres
          conv => whnf
          exact hfail _ _ (hw8.t0 hw10) hres
        rw [if_neg (by rw [hk]; decide)] at hres
        conv => whnf
        refine ⟨_, Loads.all b11 (by kernel_rfl) (by rw [adC_len okA]; kernel_rfl), ?_⟩
        conv => whnf
        refine (address_does (k := 16) tx10 (by omega) (by omega) okA).mono ?_
        rintro v w11 ⟨rfl, tx11, ho11⟩
        have hEnd : Ends w w11 T (T :: (F1 ++ (F2 ++ F3))) (.tuple ⟨[.slice X (addressL l 16 (recA (kyP p) s1.ins).1).length cx, .int .i64 0]⟩) (cameR s1 p l) := by
          rw [hres]
          exact Ends.ok tx11 (h10.1.only ho11 (fun k hk hm => (nX k hm).2 hk)) (h10.2.trans ho11 (fun k hk => .inr (nX k hk).1)) (fun k hk => .inl hk) nX
        clear hres
        conv => whnf
        refine ⟨_, Loads.one (by kernel_rfl) (tx11.blk.at (i := 0) rfl), ?_⟩
        conv => whnf
        exact hEnd
      · conv => whnf
        have hwa := ((Only.refl [] w8).drew).alloc (.cells ⟨adC (0, List.replicate 16 0)⟩ 24)
        have b11 := Blk.new w8.drew 24 ⟨adC (0, List.replicate 16 0)⟩
        refine ⟨⟨⟨b88.drew.alloc _, hb8.drew.alloc _⟩, fun _ => trivial⟩, ?_⟩
        conv => whnf
        refine (recalled_does (hr8.i.sl.o hwa) (by have := hr8.i.le; have := hr8.i.le.2; unfold maxLen at this; omega) okp hkey ok1.ins).mono ?_
        rintro v w9 ⟨rfl, ho9⟩
        have hw9 : Only [] w8 w9 := hwa.t0 ho9
        have b89 := b88.only hw9 (by simp)
        have hb9 := hb8.only hw9 (by simp)
        have b11 := b11.only ho9 (by simp)
        refine ⟨⟨⟨b89, hb9⟩, fun _ => trivial⟩, ?_⟩
        conv => whnf
        refine vStore.all (cs := adC (recA (kyP p) s1.ins).1) b11 (by rw [adC_len okA]; kernel_rfl) (by rw [adC_len okA]; kernel_rfl) (one_adC _) (fun w10 b11 ho10 _ => ?_)
        have hw10 : Only [] w8 w10 := hw9.nw ho10 (Nat.le_refl _)
        refine ⟨⟨⟨b88.only hw10 (by simp), hb8.only hw10 (by simp)⟩, fun _ => trivial⟩, ?_⟩
        conv => whnf
        refine hN3 _ _ ?_
        have tx10 := tx8.only hw10
        have h10 := hsame _ (hw8.t0 hw10)
        conv => whnf
        refine VIf.not (VIf.of (b := (recA (kyP p) s1.ins).2) (fun hk => ?_) (fun hk => ?_))
        rotate_left
        · rw [if_pos hk] at hres
          conv => whnf
          exact hfail _ _ (hw8.t0 hw10) hres
        rw [if_neg (by rw [hk]; decide)] at hres
        conv => whnf
        refine ⟨_, Loads.all b11 (by kernel_rfl) (by rw [adC_len okA]; kernel_rfl), ?_⟩
        conv => whnf
        refine (address_does (k := 16) tx10 (by omega) (by omega) okA).mono ?_
        rintro v w11 ⟨rfl, tx11, ho11⟩
        have hEnd : Ends w w11 T (T :: (F1 ++ (F2 ++ F3))) (.tuple ⟨[.slice X (addressL l 16 (recA (kyP p) s1.ins).1).length cx, .int .i64 0]⟩) (cameR s1 p l) := by
          rw [hres]
          exact Ends.ok tx11 (h10.1.only ho11 (fun k hk hm => (nX k hm).2 hk)) (h10.2.trans ho11 (fun k hk => .inr (nX k hk).1)) (fun k hk => .inl hk) nX
        clear hres
        conv => whnf
        refine ⟨_, Loads.one (by kernel_rfl) (tx11.blk.at (i := 0) rfl), ?_⟩
        conv => whnf
        exact hEnd
    · rw [if_neg hoff] at hres
      have hl8 : l.length = headL l + p.data.length := hlen
      conv => whnf
      refine ⟨_, Loads.one (by kernel_rfl) (b88.pkProto okp), ?_⟩
      conv => whnf
      refine VIf.eq (fun h17' => ?_) (fun h17' => (h17' h17).elim)
      conv => whnf
      refine ⟨_, Loads.one (by kernel_rfl) (b88.pkData okp), ?_⟩
      conv => whnf
      refine VIf.dec (fun h8 => ?_) (fun h8 => ?_)
      · have h8 : (p.data.length : Int) < 8 := h8
        rw [if_pos (by omega)] at hres
        conv => whnf
        exact hfail _ _ hw8 hres
      have h8 : ¬ (p.data.length : Int) < 8 := h8
      rw [if_neg (by omega)] at hres
      obtain ⟨GD, hGD, hGB⟩ := hp8.data
      have hwb := wordL_bd p.data 2
      conv => whnf
      refine ⟨_, Loads.one (by kernel_rfl) (b88.pkData okp), ?_⟩
      conv => whnf
      refine (word_does (k := 2) hGD (by omega) (by omega)).mono ?_
      rintro v w9 ⟨rfl, ho9⟩
      have hb9 := hb8.only ho9 (by simp)
      have hr9 := hr8.only ho9 (by simp)
      have ew : IntKind.i64.wrap (wordL p.data 2) = wordL p.data 2 := wi_id (by omega) (by omega)
      conv => whnf
      rw [ew]
      refine (ofPort_does hb9 okc hr9.m.sl (by have := hr9.m.le; have := hr9.m.le.2; unfold maxLen at this; omega)).mono ?_
      rintro v w10 ⟨rfl, ho10⟩
      have hw910 := ho9.t0 ho10
      have hb10 := hb8.only hw910 (by simp)
      have hr10 := hr8.only hw910 (by simp)
      have b810 := b88.only hw910 (by simp)
      have tx10 := tx8.only hw910
      have hw10 := hw8.t0 hw910
      conv => whnf
      rcases find_idx (outIs (wordL p.data 2)) s1.maps with ⟨k1, k2⟩ | ⟨i, hi, ei, k2⟩
      · rw [k2] at hres
        refine VIf.yes (decide_eq_true k1) ?_
        conv => whnf
        exact hfail _ _ hw10 hres
      rw [k2] at hres
      refine VIf.no (decide_eq_false (fun h => by rw [show idxI (fun m : Nm => m.out == wordL p.data 2) s1.maps = (i : Nat) from ei] at h; omega)) ?_
      have ei : idxI (fun m : Nm => m.out == wordL p.data 2) s1.maps = (i : Nat) := ei
      have hnm := hr10.m.sl.num nmC_len (by decide)
      obtain ⟨g1, cur1, eF1, eA1, -, -, -⟩ := hr10.m.blk (by have := hr10.m.le.1; omega)
      have hrm := hr10.m
      rw [eA1] at hrm
      have okm := ok1.maps s1.maps[i] (List.getElem_mem hi)
      conv => whnf
      refine ⟨_, Loads.one (by kernel_rfl) (hb10.ntM okc), ?_⟩
      rw [eA1]
      conv => whnf
      rw [ei]
      refine ⟨_, _, rfl, i, i * 20, rfl, by omega, (Nat.zero_add _).symm, ?_⟩
      conv => whnf
      have hload := hrm.sl.elem (P := Tryz.prog) (t := 48) nmC_len hi (by kernel_rfl) (by kernel_rfl)
      rw [Nat.zero_add] at hload
      refine ⟨_, hload, ?_⟩
      conv => whnf
      refine vStore.fresh (cs := nmC s1.maps[i]) (by rw [nmC_len]; kernel_rfl) (by rw [nmC_len]; kernel_rfl) (one_nmC _) (fun wm b16 hom _ => ?_)
      have hwm := hw10.t0 hom
      have b16' : Blk wm w10.heap.size 48 ⟨[] ++ (adC s1.maps[i].addr ++ [.int .i64 s1.maps[i].port, .int .i64 s1.maps[i].out, .int .i64 s1.maps[i].used])⟩ := by
        rw [← adP_id okm]
        exact b16
      have b8m := b810.only hom (by simp)
      have hbm := hb10.only hom (by simp)
      have hrm' := hr10.only hom (by simp)
      have txm := tx10.only hom
      generalize s1.maps[i] = mm at *
      dsimp only at hres
      conv => whnf
      refine ⟨_, Loads.one (by kernel_rfl) (b8m.pkProto okp), ?_⟩
      conv => whnf
      refine VIf.ne (fun h => (h h17).elim) (fun _ => ?_)
      have h10 := hsame _ hwm
      have z38 : w3.heap.size ≤ w8.heap.size := hw8.size
      have z310 : w3.heap.size ≤ wm.heap.size := hwm.size
      have l8 : q8 < w8.heap.size := b88.lt
      have qq8 : q8 < wm.heap.size := b8m.lt
      conv => whnf
      refine VJoin.go (by kernel_rfl) ?_
      conv => whnf
      refine ⟨_, Loads.one (by kernel_rfl) (b8m.pkMore okp), ?_⟩
      conv => whnf
      refine VIf.of (b := p.more) (fun hmore => ?_) (fun hmore => ?_)
      rotate_left
      · rw [if_neg (by rw [hmore]; decide)] at hres
        conv => whnf
        refine ⟨_, Loads.seg b16' rfl (by kernel_rfl) (by rw [adC_len okm]; kernel_rfl), ?_⟩
        conv => whnf
        refine ⟨_, Loads.one (by kernel_rfl) (b16.at ((nm_tail mm 0).trans rfl)), ?_⟩
        conv => whnf
        refine (end_does (k := 16) txm (.inr rfl) h20 (by omega) okm).mono ?_
        rintro v w14 ⟨rfl, tx14, ho14⟩
        have hEnd : Ends w w14 T (T :: (F1 ++ (F2 ++ F3))) (.tuple ⟨[.slice X (endL l 16 mm.addr mm.port (headL l)).length cx, .int .i64 0]⟩) (cameR s1 p l) := by
          rw [hres]
          exact Ends.ok tx14 (h10.1.only ho14 (fun k hk hm => (nX k hm).2 hk)) (h10.2.trans ho14 (fun k hk => .inr (nX k hk).1)) (fun k hk => .inl hk) (fun k hk => ⟨(nX k hk).1, fun hm => (nX k hk).2 hm⟩)
        clear hres
        conv => whnf
        refine ⟨_, Loads.one (by kernel_rfl) (tx14.blk.at (i := 0) rfl), ?_⟩
        conv => whnf
        exact hEnd
      rw [if_pos hmore] at hres
      have n3l : n3 ≤ 1000000 := by
        have e1 : s1.ins.length = n3 := hr8.i.sl.num ntC_len (by decide)
        have e2 := ok1.nins
        have e3 := ok1.cparts
        omega
      have q83 : q8 ∉ F3 := fun hm => nF8 (by simp [hm])
      have t1' : T ∉ F1 := hr8.m.ne_blk hb8 (by decide)
      have t2' : T ∉ F2 := hr8.o.ne_blk hb8 (by decide)
      have t3' : T ∉ F3 := hr8.i.ne_blk hb8 (by decide)
      have q16 : ∀ k ∈ T :: (F1 ++ (F2 ++ F3)), k < w10.heap.size := fun k hk => by
        have := hF2 k hk
        have := hw10.size
        omega
      have h16F : w10.heap.size ∉ F3 := fun hm => Nat.lt_irrefl _ (q16 _ (by simp [hm]))
      have h16T : w10.heap.size ∉ [T] := fun hm => Nat.lt_irrefl _ (q16 _ (by simp at hm; simp [hm]))
      conv => whnf
      refine VDraw.abs fun N5 hN5 => ?_
      refine VDraw.ahead 12 (fun w' => Blk w' q8 56 ⟨pkC p O D⟩ ∧ Blk w' w10.heap.size 48 ⟨[] ++ (adC mm.addr ++ [.int .i64 mm.port, .int .i64 mm.out, .int .i64 mm.used])⟩) (fun w' => Blk w' T 103 ⟨natC s1.cf s1.now (.slice A1 n1 c1) (.slice A2 n2 c2) (.slice A3 n3 c3)⟩) [0, 1, 2, 3, 4, 5, 6, 7, 8, 9, 10, 11, 12] (by kernel_rfl) (by kernel_rfl) ⟨b8m.drew, b16'.drew⟩ hbm.drew ?_
      conv => whnf
      refine ⟨_, fun w' hw' => Loads.one (by kernel_rfl) (hw'.2.ntI okc), ?_⟩
      conv => whnf
      refine ⟨_, fun w' hw' => Blk.pkAll hw'.1.1 okp, ?_⟩
      conv => whnf
      refine ⟨_, fun w' hw' => Loads.seg hw'.1.2 rfl (by kernel_rfl) (by rw [adC_len okm]; kernel_rfl), ?_⟩
      conv => whnf
      refine (noted_does hbm.drew okc hrm'.i.drew t3' n3l okp hkey ok1.ins okm).mono ?_
      rintro v w12 ⟨A5, n5, c5, F5, rfl, hr12, ho12, hF5⟩
      have b812 := b8m.drew.only ho12 q83
      have b1612 := b16'.drew.only ho12 h16F
      have b1612' := b16.drew.only ho12 h16F
      have hb12 := hbm.drew.only ho12 t3'
      refine ⟨⟨⟨b812, b1612⟩, fun _ => hb12⟩, ?_⟩
      have hm12 := hrm'.m.drew.only ho12 (fun k hk h => hr8.m.ne_row hr8.i (by decide) k hk h)
      have ho12' := hrm'.o.drew.only ho12 (fun k hk h => hr8.d k hk h)
      conv => whnf
      refine vStore.one hb12 (by kernel_rfl) rfl (i := 44) (u := .slice A3 n3 c3) ((nat_tail okc 9).trans rfl) (fun hb13 ho13 => ?_)
      rw [natC_setI okc] at hb13
      have nT8 : q8 ∉ [T] := fun hm => nF8 (by simp at hm; simp [hm])
      have b1613 := b1612.only ho13 h16T
      have b1613' := b1612'.only ho13 h16T
      refine ⟨⟨⟨b812.only ho13 nT8, b1613⟩, fun h => Bool.noConfusion h⟩, ?_⟩
      have nT : ∀ {F : List Nat}, T ∉ F → ∀ k ∈ F, k ∉ [T] := fun ht k hk h => by
        obtain rfl : k = T := by simpa using h
        exact ht hk
      have tF5 : T ∉ F5 := hr12.ne_blk hb12 (by decide)
      have hm13 := hm12.only ho13 (nT t1')
      have ho13' := ho12'.only ho13 (nT t2')
      have hi13 := hr12.only ho13 (nT tF5)
      have zmm : wm.drew.heap.size = wm.heap.size := rfl
      have d25 : ∀ k ∈ F2, k ∉ F5 := fun k hk hm => by
        rcases hF5 k hm with h | h
        · exact hr8.d k hk h
        · have := hrm'.o.lt k hk
          omega
      have h13 : St _ T ⟨s1.cf, s1.now, s1.maps, s1.outs, notedL s1.cf.parts s1.now s1.ins (kyP p) mm.addr⟩ (T :: (F1 ++ (F2 ++ F5))) := ⟨_, n1, c1, F1, A2, n2, c2, F2, A5, n5, c5, F5, hb13, ⟨hm13, ho13', hi13, d25⟩, rfl⟩
      have nF5 : ∀ k ∈ T :: (F1 ++ (F2 ++ F5)), k ∈ T :: (F1 ++ (F2 ++ F3)) ∨ wm.heap.size ≤ k := fun k hk => by
        simp only [List.mem_cons, List.mem_append] at hk ⊢
        rcases hk with hk | hk | hk | hk
        · exact .inl (.inl hk)
        · exact .inl (.inr (.inl hk))
        · exact .inl (.inr (.inr (.inl hk)))
        · rcases hF5 k hk with h | h
          · exact .inl (.inr (.inr (.inr h)))
          · exact .inr h
      have xF5 : ∀ k ∈ T :: (F1 ++ (F2 ++ F5)), k ∉ FX := fun k hk hx => by
        rcases nF5 k hk with h | h
        · exact (nX k hx).2 h
        · have := txm.lt k hx; omega
      have nF13 : ∀ k ∈ T :: (F1 ++ (F2 ++ F5)), k ∈ T :: (F1 ++ (F2 ++ F3)) ∨ w.heap.size ≤ k := fun k hk => (nF5 k hk).imp id (fun h => by omega)
      have how13 := (h10.2.drew.trans ho12 (fun k hk => .inl (by simp [hk]))).trans ho13 (fun k hk => .inl (by simp at hk; simp [hk]))
      have gq10 : q10 ∉ T :: (F1 ++ (F2 ++ F3)) := fun hm => by have := hF2 _ hm; omega
      have tx13 := ((txm.only ((Only.refl [] wm).drew)).far ho12 (fun hm => gq10 (by simp [hm])) (fun k hk hm => (nX k hk).2 (by simp [hm]))).far ho13 (fun hm => gq10 (by simp at hm; simp [hm])) (fun k hk hm => nXT (by simp at hm; exact hm ▸ hk))
      refine hN5 _ _ ?_
      conv => whnf
      refine ⟨_, Loads.seg b1613 rfl (by kernel_rfl) (by rw [adC_len okm]; kernel_rfl), ?_⟩
      conv => whnf
      refine ⟨_, Loads.one (by kernel_rfl) (b1613'.at ((nm_tail mm 0).trans rfl)), ?_⟩
      conv => whnf
      refine (end_does (k := 16) tx13 (.inr rfl) h20 (by omega) okm).mono ?_
      rintro v w14 ⟨rfl, tx14, ho14⟩
      have hEnd : Ends w w14 T (T :: (F1 ++ (F2 ++ F3))) (.tuple ⟨[.slice X (endL l 16 mm.addr mm.port (headL l)).length cx, .int .i64 0]⟩) (cameR s1 p l) := by
        rw [hres]
        exact Ends.ok tx14 (h13.only ho14 (fun k hk hm => xF5 k hk hm)) (how13.trans ho14 (fun k hk => .inr (nX k hk).1)) nF13 (fun k hk => ⟨(nX k hk).1, fun hm => xF5 k hm hk⟩)
      clear hres
      conv => whnf
      refine ⟨_, Loads.one (by kernel_rfl) (tx14.blk.at (i := 0) rfl), ?_⟩
      conv => whnf
      exact hEnd
  · rw [if_neg h17] at hres
    conv => whnf
    refine hN2 _ _ ?_
    conv => whnf
    refine ⟨_, Loads.one (by kernel_rfl) (b88.pkProto okp), ?_⟩
    conv => whnf
    refine VIf.eq (fun h17' => (h17 h17').elim) (fun _ => ?_)
    conv => whnf
    refine ⟨_, b88.pkAll okp, ?_⟩
    conv => whnf
    refine (quoted_does hp8).mono ?_
    rintro v w9 ⟨hQ, ho9⟩
    have tx9 := tx8.only ho9
    have hb9 := hb8.only ho9 (by simp)
    have hr9 := hr8.only ho9 (by simp)
    have b89 := b88.only ho9 (by simp)
    have hw9 := hw8.t0 ho9
    rcases hQ with ⟨hq, rfl⟩ | ⟨hq, X', Y', qn, qc, qm, qd, QG, rfl, hQ1, hQ2, hQ3, hQ4, hQ5, hQ6⟩
    · rw [if_pos (by rw [hq]; rfl)] at hres
      conv => whnf
      refine vStore.fresh (cs := quC none none 0 0 0 0) (by kernel_rfl) (by kernel_rfl) (one_quC _ _ _ _ _ _) (fun w10 b14 ho10 _ => ?_)
      conv => whnf
      refine VDraw.abs fun N4 hN4 => ?_
      refine VDraw.q (by kernel_rfl) (by kernel_rfl) ?_
      conv => whnf
      intro w11 ho11
      refine hN4 _ _ ?_
      conv => whnf
      exact hfail _ _ ((hw9.t0 ho10).t0 ho11) hres
    obtain ⟨f1, f2, f3⟩ := quoted_facts hq
    have hqn : qn = qN p := by
      have := hQ1.len
      rw [List.length_take] at this
      omega
    have hqm : (qL p).length - qN p = qm := by
      have := hQ2.len
      rwa [List.length_drop] at this
    conv => whnf
    refine vStore.fresh (cs := quC X' Y' qn qc qm qd) (by kernel_rfl) (by kernel_rfl) (one_quC _ _ _ _ _ _) (fun w10 b14 ho10 _ => ?_)
    have hb10 := hb9.only ho10 (by simp)
    have hr10 := hr9.only ho10 (by simp)
    have b810 := b89.only ho10 (by simp)
    have tx10 := tx9.only ho10
    have hQ1 := hQ1.o ho10
    have hQ2 := hQ2.o ho10
    have hw10 := hw9.t0 ho10
    have okq : okAd (qaddrA ((qL p).take (qN p)) 12) := okAd4 (by
      rw [List.length_append, List.length_take, List.length_drop, List.length_take]
      simp
      omega)
    conv => whnf
    refine VDraw.abs fun N3 hN3 => ?_
    refine VDraw.q (by kernel_rfl) (by kernel_rfl) ?_
    conv => whnf
    refine ⟨_, fun w' hw' => Loads.all (b14.only hw' (by simp)) (by kernel_rfl) (by kernel_rfl), ?_⟩
    conv => whnf
    refine ⟨_, fun w' hw' => (qaddress_does (k := 12) (hQ1.o hw') hQ3 hQ4 (by omega)).q hw', ?_⟩
    conv => whnf
    refine ⟨_, fun w' hw' => (hb10.only hw' (by simp)).ntOutside okc, ?_⟩
    conv => whnf
    refine ⟨_, eql_ad okq okc.outside _ _, ?_⟩
    conv => whnf
    intro w11 ho11
    have b1411 := b14.only ho11 (by simp)
    have hb11 := hb10.only ho11 (by simp)
    have hr11 := hr10.only ho11 (by simp)
    have b811 := b810.only ho11 (by simp)
    have tx11 := tx10.only ho11
    have hQ2 := hQ2.o ho11
    have hw11 := hw10.t0 ho11
    conv => whnf
    refine hN3 _ _ ?_
    conv => whnf
    refine VIf.of (b := decide (qaddrA ((qL p).take (qN p)) 12 = s1.cf.outside)) (fun hk => ?_) (fun hk => ?_)
    rotate_left
    · rw [if_pos (by rw [hq, hk]; rfl)] at hres
      conv => whnf
      exact hfail _ _ hw11 hres
    rw [if_neg (by rw [hq, hk]; decide)] at hres
    conv => whnf
    refine ⟨_, Loads.all b1411 (by kernel_rfl) (by kernel_rfl), ?_⟩
    conv => whnf
    refine (qport_does (k := 12) hQ2 (.inl rfl) (by omega) (by omega)).mono ?_
    rintro v w12 ⟨rfl, ho12⟩
    conv => whnf
    refine (ofPort_does (hb11.only ho12 (by simp)) okc (hr11.only ho12 (by simp)).m.sl (by have := hr11.m.le; have := hr11.m.le.2; unfold maxLen at this; omega)).mono ?_
    rintro v w13 ⟨rfl, ho13⟩
    have ho1113 := ho12.t0 ho13
    have hb13 := hb11.only ho1113 (by simp)
    have hr13 := hr11.only ho1113 (by simp)
    have b813 := b811.only ho1113 (by simp)
    have tx13 := tx11.only ho1113
    have hw13 := hw11.t0 ho1113
    conv => whnf
    rcases find_idx (outIs (wordL ((qL p).drop (qN p)) 0)) s1.maps with ⟨k1, k2⟩ | ⟨i, hi, ei, k2⟩
    · rw [k2] at hres
      refine VIf.yes (decide_eq_true k1) ?_
      conv => whnf
      exact hfail _ _ hw13 hres
    rw [k2] at hres
    refine VIf.no (decide_eq_false (fun h => by rw [show idxI (fun m : Nm => m.out == wordL ((qL p).drop (qN p)) ((12 - 12) / 2)) s1.maps = (i : Nat) from ei] at h; omega)) ?_
    have ei : idxI (fun m : Nm => m.out == wordL ((qL p).drop (qN p)) ((12 - 12) / 2)) s1.maps = (i : Nat) := ei
    have hnm := hr13.m.sl.num nmC_len (by decide)
    obtain ⟨g1, cur1, eF1, eA1, -, -, -⟩ := hr13.m.blk (by have := hr13.m.le.1; omega)
    have hrm := hr13.m
    rw [eA1] at hrm
    have okm := ok1.maps s1.maps[i] (List.getElem_mem hi)
    conv => whnf
    refine ⟨_, Loads.one (by kernel_rfl) (hb13.ntM okc), ?_⟩
    rw [eA1]
    conv => whnf
    rw [ei]
    refine ⟨_, _, rfl, i, i * 20, rfl, by omega, (Nat.zero_add _).symm, ?_⟩
    conv => whnf
    have hload := hrm.sl.elem (P := Tryz.prog) (t := 48) nmC_len hi (by kernel_rfl) (by kernel_rfl)
    rw [Nat.zero_add] at hload
    refine ⟨_, hload, ?_⟩
    conv => whnf
    refine vStore.fresh (cs := nmC s1.maps[i]) (by rw [nmC_len]; kernel_rfl) (by rw [nmC_len]; kernel_rfl) (one_nmC _) (fun wm b16 hom _ => ?_)
    have hwm := hw13.t0 hom
    have b16' : Blk wm w13.heap.size 48 ⟨[] ++ (adC s1.maps[i].addr ++ [.int .i64 s1.maps[i].port, .int .i64 s1.maps[i].out, .int .i64 s1.maps[i].used])⟩ := by
      rw [← adP_id okm]
      exact b16
    have b8m := b813.only hom (by simp)
    have hbm := hb13.only hom (by simp)
    have hrm' := hr13.only hom (by simp)
    have txm := tx13.only hom
    generalize s1.maps[i] = mm at *
    dsimp only at hres
    conv => whnf
    refine ⟨_, Loads.one (by kernel_rfl) (b8m.pkProto okp), ?_⟩
    conv => whnf
    refine VIf.ne (fun _ => ?_) (fun h => (h17 h).elim)
    have h10 := hsame _ hwm
    conv => whnf
    refine ⟨_, Loads.seg b16' rfl (by kernel_rfl) (by rw [adC_len okm]; kernel_rfl), ?_⟩
    conv => whnf
    refine (address_does (k := 16) txm (by omega) (by omega) okm).mono ?_
    rintro v w14 ⟨rfl, tx14, ho14⟩
    have n16 : w13.heap.size ∉ FX := fun hm => by
      have := tx13.lt _ hm
      omega
    have b1614 := b16'.only ho14 n16
    have b1614' := b16.only ho14 n16
    have e12 := addressL_len l 16 mm.addr
    have hdl : (qL p).length = l.length - headL l - 8 := by
      unfold qL
      rw [hdat, List.length_drop, List.length_drop]
    have hua : udpAt (addressL l 16 mm.addr) (headL l) = headL l + 8 + qN p := by
      have : udpAt (addressL l 16 mm.addr) (headL l) = udpAt l (headL l) := by
        unfold udpAt
        rw [addressL_getD (.inr rfl) (by omega)]
      rw [this, udpAt_e hdat]
    conv => whnf
    refine ⟨_, Loads.seg b1614 rfl (by kernel_rfl) (by rw [adC_len okm]; kernel_rfl), ?_⟩
    conv => whnf
    refine ⟨_, Loads.one (by kernel_rfl) (b1614'.at ((nm_tail mm 0).trans rfl)), ?_⟩
    conv => whnf
    refine (quote_does (k := 12) tx14 (.inl rfl) h20 (by omega) (by omega) okm).mono ?_
    rintro v w15 ⟨rfl, tx15, ho15⟩
    have h14 := h10.1.only ho14 (fun k hk hm => (nX k hm).2 hk)
    have how14 := h10.2.trans ho14 (fun k hk => .inr (nX k hk).1)
    have hEnd : Ends w w15 T (T :: (F1 ++ (F2 ++ F3))) (.tuple ⟨[.slice X (quoteL (addressL l 16 mm.addr) 12 mm.addr mm.port (headL l)).length cx, .int .i64 0]⟩) (cameR s1 p l) := by
      rw [hres]
      exact Ends.ok tx15 (h14.only ho15 (fun k hk hm => (nX k hm).2 hk)) (how14.trans ho15 (fun k hk => .inr (nX k hk).1)) (fun k hk => .inl hk) nX
    clear hres
    conv => whnf
    refine ⟨_, Loads.one (by kernel_rfl) (tx15.blk.at (i := 0) rfl), ?_⟩
    conv => whnf
    exact hEnd
end Go.Proofs.YtofomopdaponbaaGreatDoor
