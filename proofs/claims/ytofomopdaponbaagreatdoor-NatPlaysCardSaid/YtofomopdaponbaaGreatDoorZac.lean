/-
  The document's nat (mosaicref30): what comes in.
-/
import Derived.Test.YtofomopdaponbaaGreatDoorZab
import Derived.Test.YtofomopdaponbaaGreatDoorYNsm
import Derived.Test.YtofomopdaponbaaGreatDoorYNmz
import Derived.Test.YtofomopdaponbaaGreatDoorYNsh
namespace Go.Proofs.YtofomopdaponbaaGreatDoor
open Go.RowKit
set_option linter.unusedVariables false
set_option linter.unusedSimpArgs false

theorem cameR_eq (s : NatS) (p : Pk) (l : List UInt8) : cameR s p l = ((if (decide (p.dst = s.cf.outside) && outsideA s.cf p.src) = false then (300, [], s)
  else if p.proto = 17 then
    if p.off > 0 then
      if (recA (kyP p) s.ins).2 = false then (301, [], s) else (0, addressL l 16 (recA (kyP p) s.ins).1, s)
    else if p.data.length < 8 then (20, [], s)
    else match s.maps.find? (outIs (wordL p.data 2)) with
      | none => (301, [], s)
      | some m => (0, endL l 16 m.addr m.port (headL l), ⟨s.cf, s.now, s.maps, s.outs, if p.more = true then notedL s.cf.parts s.now s.ins (kyP p) m.addr else s.ins⟩)
  else if (quotedB p && decide (qaddrA ((qL p).take (qN p)) 12 = s.cf.outside)) = false then (301, [], s)
  else match s.maps.find? (outIs (wordL ((qL p).drop (qN p)) 0)) with
    | none => (301, [], s)
    | some m => (0, quoteL (addressL l 16 m.addr) 12 m.addr m.port (headL l), s)) : Int × List UInt8 × NatS) := rfl
set_option maxHeartbeats 8000000 in
set_option maxRecDepth 100000 in
theorem rin30_does {w : World} {T : Nat} {s : NatS} {F G : List Nat} {A : Option Addr} {n c : Nat} {l : List UInt8} {now : Int} (h : St30 w T s F) (ok : okS s) (hl : Bs w G A n l) (hG : ∀ k ∈ G, k ∉ F) (hn : n ≤ 140737488355328) (hc : n ≤ c) (hpo : ∀ m ∈ s.maps, 0 ≤ m.out ∧ m.out ≤ 65535) (hpq : ∀ m ∈ s.maps, 0 ≤ m.port ∧ m.port ≤ 65535) :
    Does Tryz.prog 44 [.pointer (some ⟨T, 0, none⟩), .slice A n c, .int .i64 now] w (fun v w' => Ends30 w w' T F v (cameS s now l)) := by
  obtain ⟨G, hl, hGs⟩ := hl.small
  have hG : ∀ k ∈ G, k ∉ F := fun k hk => hG k (hGs k hk).1
  have hGw : ∀ k ∈ G, k < w.heap.size := fun k hk => (hGs k hk).2
  clear hGs
  have hll := hl.len
  have ok1 := passes_ok ok now
  have hcf := passes_cf s now
  have hTF : T ∈ F := by
    obtain ⟨_, _, _, _, _, _, _, _, _, _, _, _, _, rfl⟩ := h
    simp
  refine Does.enter (fn := Tryz.f44) (by kernel_rfl) rfl (by kernel_rfl) (by kernel_rfl) ?_
  conv => whnf
  refine (rbegin_does h ok).mono ?_
  rintro v w2 ⟨rfl, F', h2, ho2', hF'⟩
  have ho2 : Only F w w2 := ho2'.mono (fun x hx => .inl (by simp at hx; rw [hx]; exact hTF))
  have hGF' : ∀ k ∈ G, k ∉ F' := fun k hk hm => by
    rcases hF' k hm with h1 | h1
    · exact hG k hk h1
    · have := hGw k hk; omega
  have hl2 := hl.only ho2 hG
  conv => whnf
  refine VIf.not (VIf.of (b := (passesS s now).1) (fun hps => ?_) (fun hps => ?_))
  rotate_left
  · conv => whnf
    have e : cameS s now l = (1, [], (passesS s now).2) := by
      have e1 : beginE s now l = 1 := if_neg (by rw [hps]; decide)
      unfold cameS
      rw [e1, if_pos (by decide)]
    rw [e]
    exact Ends30.none_ h2 ho2 hF'
  have hbE : beginE s now l = parseE l := if_pos hps
  conv => whnf
  refine (rparse_does hl2 hn hc).mono ?_
  rintro v w3 ⟨O, D, rfl, hp3, ho3⟩
  have h3 := h2.o ho3
  have how3 := ho2.f0 ho3
  have hlp := pk_len (O := O) (D := D) hp3.ok
  have hF2 : ∀ k ∈ F', k < w2.heap.size := h2.lt
  conv => whnf
  refine vStore.fresh (cs := pkC (parseP l) O D) (by rw [hlp]; kernel_rfl) (by rw [hlp]; kernel_rfl) (one_pkC _ _ _) (fun w4 b8 ho4 hz4 => ?_)
  have h4 := h3.o ho4
  have how4 := how3.f0 ho4
  have hp4 := hp3.o ho4
  have z23 := ho3.size
  generalize hq8 : w3.heap.size = q8 at *
  have nq8 : q8 ∉ F' := fun hm => by have := hF2 _ hm; omega
  conv => whnf
  refine VIf.ne (fun hE => ?_) (fun hE => ?_)
  · conv => whnf
    have e : cameS s now l = (parseE l, [], (passesS s now).2) := by
      unfold cameS
      rw [hbE, if_pos hE]
    rw [e]
    exact Ends30.none_ h4 how4 hF'
  have hP := parse_ok hE
  have hres : cameS s now l = cameR (passesS s now).2 (parseP l) l := by
    unfold cameS
    rw [hbE, if_neg (fun h => h hE)]
  have hpo1 : ∀ m ∈ (passesS s now).2.maps, 0 ≤ m.out ∧ m.out ≤ 65535 := fun m hm => by
    unfold passesS at hm
    split at hm
    · exact hpo m (List.mem_filter.1 hm).1
    · exact hpo m hm
  have hpq1 : ∀ m ∈ (passesS s now).2.maps, 0 ≤ m.port ∧ m.port ≤ 65535 := fun m hm => by
    unfold passesS at hm
    split at hm
    · exact hpq m (List.mem_filter.1 hm).1
    · exact hpq m hm
  generalize hs1 : (passesS s now).2 = s1 at *
  rw [hres]
  clear hres
  have hhd := hP.head
  have hkey := hP.key
  have h20 := hP.h20
  have h60 := hP.h60
  have hlen := hP.len
  have hdat : (parseP l).data = l.drop (headL l) := by rw [hP.e]; rfl
  have hs4 : (parseP l).src.1 = 4 := by rw [hP.e]; rfl
  have hd4 : (parseP l).dst.1 = 4 := by rw [hP.e]; rfl
  have hmax := hP.max
  clear hP
  generalize parseP l = p at *
  have okp := hp4.ok
  have okc : okCf s1.cf := ok1.cf
  have hl4 : Bs w4 G A n l := hl.only how4 hG
  have h40 := h4
  obtain ⟨A1, n1, c1, F1, A2, n2, c2, F2, A3, n3, c3, F3, hr, hFe⟩ := h40
  have hb := hr.b
  have hz := hr.m.sl
  have hn1 := hz.num nmC_len (by decide)
  have hn2 := hr.o.num ntC_len (by decide)
  have hn3 := hr.i.num ntC_len (by decide)
  have q1 := ok1.nmaps
  have q2 := ok1.cmaps
  have q5 := ok1.cparts
  have q6 := ok1.nouts
  have q7 := ok1.nins
  have hfail : ∀ (w' : World) (e : Int), Only [] w4 w' → cameR s1 p l = (e, [], s1) → Ends30 w w' T F (.tuple ⟨[.slice none 0 0, .int .i64 e]⟩) (cameR s1 p l) := fun w' e ho h => by
    rw [h]
    exact Ends30.none_ (h4.o ho) (how4.f0 ho) hF'
  have hdone : ∀ {w5 w' : World} {v : Value} {z : List UInt8}, Only [] w4 w5 → Own w5 w' 5 1 (z.map u8) v → cameR s1 p l = (0, z, s1) → Ends30 w w' T F (.tuple ⟨[v, .int .i64 0]⟩) (cameR s1 p l) := fun ho hv h => by
    rw [h]
    obtain ⟨_, _, _, hE⟩ := Ends30.own hv (h4.o ho) (how4.f0 ho) hF'
    exact hE
  refine vc.S ?_
  have hres := cameR_eq s1 p l
  obtain ⟨GD, hD, -⟩ := hp4.data
  have hdl := hp4.dl
  conv => whnf
  refine VDraw.abs fun N0 hN0 => ?_
  refine VDraw.q (by kernel_rfl) (by kernel_rfl) ?_
  conv => whnf
  refine ⟨_, fun w' hw' => (b8.only hw' (by simp)).pkDst okp, ?_⟩
  conv => whnf
  refine ⟨_, fun w' hw' => (hb.only hw' (by simp)).ntOutside okc, ?_⟩
  conv => whnf
  refine ⟨_, eql_ad okp.dst okc.outside _ _, ?_⟩
  conv => whnf
  refine VIf.not (VIf.of (b := decide (p.dst = s1.cf.outside)) (fun f1 => ?_) (fun f1 => ?_))
  rotate_left
  · conv => whnf
    intro w5 ho5
    refine hN0 _ _ ?_
    conv => whnf
    exact hfail _ _ ho5 (by rw [hres, f1]; rfl)
  conv => whnf
  refine ⟨_, fun w' hw' => (b8.only hw' (by simp)).pkSrc okp, ?_⟩
  conv => whnf
  refine ⟨_, fun w' hw' => (routside_does (hb.only hw' (by simp)) okc okp.src).q hw', ?_⟩
  conv => whnf
  intro w6 hw6
  refine hN0 _ _ ?_
  have b86 := b8.only hw6 (by simp)
  conv => whnf
  refine VIf.not (VIf.of (b := outsideA s1.cf p.src) (fun f2 => ?_) (fun f2 => ?_))
  rotate_left
  · conv => whnf
    exact hfail _ _ hw6 (by rw [hres, f2, Bool.and_false]; rfl)
  rw [if_neg (by rw [f1, f2]; decide)] at hres
  clear hN0 N0
  conv => whnf
  refine ⟨_, b86.pkAll okp, ?_⟩
  conv => whnf
  refine (rhead_does (hp4.o hw6)).mono ?_
  rintro v w7 ⟨rfl, ho7⟩
  have hw7 := hw6.t0 ho7
  have b87 := b86.only ho7 (by simp)
  rw [hhd]
  have hb7 := hb.only hw7 (by simp)
  have hl7 := hl4.o hw7
  conv => whnf
  refine ⟨_, Loads.one (by kernel_rfl) (b87.pkProto okp), ?_⟩
  refine splitB.abs fun N2 hN2 => ?_
  conv => whnf
  refine VIf.eq (fun h17 => ?_) (fun h17 => ?_)
  · rw [if_pos h17] at hres
    conv => whnf
    (refine ⟨_, Loads.one (by kernel_rfl) (b87.pkOff okp), ?_⟩; conv => whnf)
    refine hN2 _ _ ?_
    conv => whnf
    refine VIf.dec (fun hoff => ?_) (fun hoff => ?_)
    · rw [if_pos hoff] at hres
      conv => whnf
      refine VDraw.abs fun N3 hN3 => ?_
      have okA : okAd (recA (kyP p) s1.ins).1 := okRec ok1.ins
      refine VDraw.cut (α := Nat) [(11, 13), (56, 66)] (fun y => [(11, .pointer (some ⟨y, 0, none⟩)), (12, .bool (recA (kyP p) s1.ins).2)]) (fun y w' => Blk w' y 24 ⟨adC (recA (kyP p) s1.ins).1⟩ ∧ Only [] w7 w') (by kernel_rfl) ?_ ?_
      · refine VDraw.tree 10 (fun w' => Only [] w7 w') (fun _ => True) (.one 0 (.one 1 (.one 2 (.one 3 (.one 4 (.two 5 (.two 6 (.one 7 (.one 8 (.one 9 (.one 10 (.one 11 (.one 12 .done)))))) 10 (.one 6 (.one 7 (.one 8 (.one 9 (.one 11 (.one 12 .done))))))) 10 (.one 5 (.one 6 (.one 7 (.one 8 (.one 9 (.one 11 (.one 12 .done))))))))))))) (by kernel_rfl) (by kernel_rfl) (Only.refl [] w7).drew trivial ?_
        conv => whnf
        refine ⟨_, fun w' hw' => Loads.one (by kernel_rfl) ((hb7.only hw' (by simp)).ntI okc), ?_⟩
        conv => whnf
        refine ⟨_, fun w' hw' => (b87.only hw' (by simp)).pkAll okp, ?_⟩
        conv => whnf
        refine ⟨?_, ?_⟩
        · conv => whnf
          refine (rkeyOf_does okp).mono ?_
          rintro v wa ⟨rfl, hoa⟩
          have hwa : Only [] w7 wa := ((Only.refl [] w7).drew).t0 hoa
          refine ⟨⟨hwa, fun _ => trivial⟩, ?_⟩
          conv => whnf
          refine ⟨?_, ?_⟩
          · conv => whnf
            refine (rfound_does hkey ((hr.i.o hw7).o hwa) ok1.ins (by omega)).mono ?_
            rintro v wb ⟨rfl, hob⟩
            have hwb := hwa.t0 hob
            refine ⟨⟨hwb, fun _ => trivial⟩, ?_⟩
            conv => whnf
            refine ⟨⟨hwb.alloc _, fun _ => trivial⟩, ?_⟩
            conv => whnf
            refine vStore.fresh (cs := adC (recA (kyP p) s1.ins).1) (by rw [adC_len okA]; kernel_rfl) (by rw [adC_len okA]; kernel_rfl) (one_adC _) (fun wc bc hoc _ => ?_)
            refine ⟨⟨hwb.t0 hoc, fun _ => trivial⟩, ?_⟩
            conv => whnf
            exact ⟨_, ⟨rfl, rfl, trivial⟩, bc, hwb.t0 hoc⟩
          · conv => whnf
            have bz := Blk.new wa 24 ⟨adC zeroA⟩
            have hwz := hwa.alloc (.cells ⟨adC zeroA⟩ 24)
            refine ⟨⟨hwz, fun _ => trivial⟩, ?_⟩
            conv => whnf
            refine (rfound_does hkey ((hr.i.o hw7).o hwz) ok1.ins (by omega)).mono ?_
            rintro v wb ⟨rfl, hob⟩
            have hwb := hwz.t0 hob
            refine ⟨⟨hwb, fun _ => trivial⟩, ?_⟩
            conv => whnf
            refine vStore.all (cs := adC (recA (kyP p) s1.ins).1) (bz.only hob (by simp)) (by rw [adC_len okA]; kernel_rfl) (by rw [adC_len okA]; rfl) (one_adC _) (fun wc bc hoc _ => ?_)
            have hwc := hwb.nw hoc hwa.size
            refine ⟨⟨hwc, fun _ => trivial⟩, ?_⟩
            conv => whnf
            exact ⟨_, ⟨rfl, rfl, trivial⟩, bc, hwc⟩
        · conv => whnf
          have bz := Blk.new (w7.drew) 24 ⟨adC zeroA⟩
          have hwz := (Only.refl [] w7).drew.alloc (.cells ⟨adC zeroA⟩ 24)
          refine ⟨⟨hwz, fun _ => trivial⟩, ?_⟩
          conv => whnf
          refine (rkeyOf_does okp).mono ?_
          rintro v wa ⟨rfl, hoa⟩
          have hwa := hwz.t0 hoa
          refine ⟨⟨hwa, fun _ => trivial⟩, ?_⟩
          conv => whnf
          refine (rfound_does hkey ((hr.i.o hw7).o hwa) ok1.ins (by omega)).mono ?_
          rintro v wb ⟨rfl, hob⟩
          have hwb := hwa.t0 hob
          refine ⟨⟨hwb, fun _ => trivial⟩, ?_⟩
          conv => whnf
          refine vStore.all (cs := adC (recA (kyP p) s1.ins).1) ((bz.only hoa (by simp)).only hob (by simp)) (by rw [adC_len okA]; kernel_rfl) (by rw [adC_len okA]; rfl) (one_adC _) (fun wc bc hoc _ => ?_)
          have hwc := hwb.nw hoc (Nat.le_refl _)
          refine ⟨⟨hwc, fun _ => trivial⟩, ?_⟩
          conv => whnf
          exact ⟨_, ⟨rfl, rfl, trivial⟩, bc, hwc⟩
      rintro y wz jz ⟨by_, hoz⟩
      refine hN3 _ _ ?_
      have hwz := hw7.t0 hoz
      have hbz := hb7.only hoz (by simp)
      conv => whnf
      refine VIf.not (VIf.of (b := (recA (kyP p) s1.ins).2) (fun f3 => ?_) (fun f3 => ?_))
      rotate_left
      · rw [if_pos f3] at hres
        conv => whnf
        exact hfail _ _ hwz hres
      rw [if_neg (by rw [f3]; decide)] at hres
      conv => whnf
      refine ⟨_, Loads.all by_ (by kernel_rfl) (by rw [adC_len okA]; kernel_rfl), ?_⟩
      conv => whnf
      refine (rturnA_does (k := 16) (hl7.o hoz) (by omega) (by omega) (.inr rfl) (by omega) okA).mono ?_
      intro v wy hv
      have hE := hdone hwz hv hres
      obtain ⟨X, nX, cX, FX, rfl, -⟩ := hv
      conv => whnf
      exact hE
    · rw [if_neg hoff] at hres
      conv => whnf
      (refine ⟨_, Loads.one (by kernel_rfl) (b87.pkProto okp), ?_⟩; conv => whnf)
      refine VIf.eq (fun _ => ?_) (fun hne => (hne h17).elim)
      conv => whnf
      (refine ⟨_, Loads.one (by kernel_rfl) (b87.pkData okp), ?_⟩; conv => whnf)
      refine VIf.dec (fun h8 => ?_) (fun h8 => ?_)
      · rw [if_pos (by omega)] at hres
        conv => whnf
        exact hfail _ _ hw7 hres
      have h8 : ¬ p.data.length < 8 := by omega
      rw [if_neg h8] at hres
      conv => whnf
      (refine ⟨_, Loads.one (by kernel_rfl) (b87.pkData okp), ?_⟩; conv => whnf)
      refine (rget30_does (k := 2) (hD.o hw7) (by omega) hdl).mono ?_
      rintro v w9 ⟨rfl, ho9⟩
      have hw9 := hw7.t0 ho9
      have b89 := b87.only ho9 (by simp)
      conv => whnf
      refine (rout_does (hb.only hw9 (by simp)) okc (hz.o hw9) (by omega)).mono ?_
      rintro v w10 ⟨rfl, ho10⟩
      have hw10 := hw9.t0 ho10
      have b810 := b89.only ho10 (by simp)
      have hb10 := hb.only hw10 (by simp)
      have hz10 := hz.o hw10
      rcases find_idx (outIs (wordL p.data 2)) s1.maps with ⟨f1, f2⟩ | ⟨i, hi, f1, f2⟩
      · rw [f2] at hres
        conv => whnf
        refine VIf.dec (fun _ => ?_) (fun hne => (hne f1).elim)
        conv => whnf
        exact hfail _ _ hw10 hres
      rw [f2] at hres
      rw [f1]
      have hres : cameR s1 p l = (0, endL l 16 s1.maps[i].addr s1.maps[i].port (headL l), ⟨s1.cf, s1.now, s1.maps, s1.outs, if p.more = true then notedL s1.cf.parts s1.now s1.ins (kyP p) s1.maps[i].addr else s1.ins⟩) := hres
      have hpb := hpo1 _ (List.getElem_mem hi)
      have hqb := hpq1 _ (List.getElem_mem hi)
      have okm := ok1.maps _ (List.getElem_mem hi)
      obtain ⟨b, off, hA1, -⟩ := hz.some_ (by omega)
      subst hA1
      have h10 := h4.o hw10
      have how10 := how4.f0 hw10
      conv => whnf
      refine VJoin.cut (α := List Nat) [(86, 108)] (fun F2 => []) (fun F2 => fun w' => St30 w' T ⟨s1.cf, s1.now, s1.maps, s1.outs, if p.more = true then notedL s1.cf.parts s1.now s1.ins (kyP p) s1.maps[i].addr else s1.ins⟩ F2 ∧ Only F w w' ∧ (∀ k ∈ F2, k ∈ F ∨ w.heap.size ≤ k)) (by kernel_rfl) ?_ ?_
      · conv => whnf
        (refine ⟨_, Loads.one (by kernel_rfl) (b810.pkMore okp), ?_⟩; conv => whnf)
        refine VIf.of (b := p.more) (fun hmore => ?_) (fun hmore => ?_)
        rotate_left
        · conv => whnf
          refine ⟨F', trivial, ?_, how10, hF'⟩
          rw [if_neg (by rw [hmore]; decide)]
          exact h10
        rw [if_pos hmore]
        conv => whnf
        refine VDraw.abs fun N5 hN5 => ?_
        refine VDraw.ahead 19 (fun _ => True) (fun w' => Only [] w10 w') [0, 1, 2, 3, 4, 5, 6, 8, 9, 10, 11, 12, 13, 14, 15, 7, 16, 17, 18, 19] (by kernel_rfl) (by kernel_rfl) trivial (Only.refl [] w10).drew ?_
        conv => whnf
        (refine ⟨_, fun w' hw' => Loads.one (by kernel_rfl) ((hb10.only hw'.2 (by simp)).ntI okc), ?_⟩; conv => whnf)
        refine ⟨_, fun w' hw' => (b810.only hw'.2 (by simp)).pkAll okp, ?_⟩
        conv => whnf
        (refine ⟨_, fun w' hw' => Loads.one (by kernel_rfl) ((hb10.only hw'.2 (by simp)).ntM okc), ?_⟩; conv => whnf)
        refine ⟨_, _, rfl, i, off + i * 20, rfl, by omega, rfl, ?_⟩
        conv => whnf
        refine ⟨_, fun w' hw' => (hz10.o hw'.2).sub nmC_len hi (nmC_addr _) rfl (by kernel_rfl) (by rw [adP_len]; kernel_rfl), ?_⟩
        conv => whnf
        rw [adP_id okm]
        refine (rkeyOf_does okp).mono ?_
        rintro v wa ⟨rfl, hoa⟩
        have hwa : Only [] w10 wa := ((Only.refl [] w10).drew).t0 hoa
        refine ⟨⟨trivial, fun _ => hwa⟩, ?_⟩
        conv => whnf
        refine (rnoted_does (hb10.only hwa (by simp)) okc (hr.i.o (hw10.t0 hwa)) hkey okm ok1.ins (by omega) q5.1).mono ?_
        rintro v wb ⟨A4, n4, c4, F4, rfl, hs4', hob, hF4⟩
        have hwb : Only [] w10 wb := hwa.t0 hob
        have hbb := hb10.only hwb (by simp)
        refine ⟨⟨trivial, fun _ => hwb⟩, ?_⟩
        conv => whnf
        refine vStore.one hbb (by kernel_rfl) rfl (i := 44) (u := .slice A3 n3 c3) ((nat_tail okc 9).trans rfl) (fun hbc hoc => ?_)
        rw [natC_setI okc] at hbc
        refine ⟨⟨trivial, fun h => Bool.noConfusion h⟩, ?_⟩
        have nT : ∀ {F : List Nat}, T ∉ F → ∀ k ∈ F, k ∉ [T] := fun ht k hk h => by
          obtain rfl : k = T := by simpa using h
          exact ht hk
        have hTlt := hbb.lt
        have hT10 := hb10.lt
        have hza := hwa.size
        have t4 : T ∉ F4 := fun hm => by have := (hF4 _ hm).1; omega
        have hTF' : T ∈ F' := by rw [hFe]; simp
        have hmc := ((hr.m.only hw10 (by simp)).only hwb (by simp)).only hoc (nT hr.tm)
        have hsc := hs4'.only hoc (nT t4)
        have hoc' := (hr.o.o (hw10.t0 hwb)).only hoc (nT hr.to)
        have zc := hoc.size
        have zb := hwb.size
        have z10 := hw10.size
        conv => whnf
        refine hN5 _ _ ?_
        conv => whnf
        refine ⟨T :: (F1 ++ (F2 ++ F4)), trivial, ⟨_, n1, c1, F1, A2, n2, c2, F2, A4, n4, c4, F4, ⟨hbc, hmc, hoc', hsc, hr.to, t4, hr.mo, fun k hk hm => ?_, fun k hk => by have := hr.lo k hk; omega, fun k hk => by have := (hF4 k hk).2; omega⟩, rfl⟩, ?_, ?_⟩
        · have := (hF4 _ hm).1
          have := hr.m.lt _ hk
          omega
        · exact (how10.f0 hwb).trans hoc (fun k hk => by
            obtain rfl : k = T := by simpa using hk
            exact .inl hTF)
        · intro k hk
          simp only [List.mem_cons, List.mem_append] at hk
          rcases hk with rfl | hk | hk | hk
          · exact .inl hTF
          · exact hF' k (by rw [hFe]; simp [hk])
          · exact hF' k (by rw [hFe]; simp [hk])
          · have := (hF4 k hk).1
            have := how10.size
            exact .inr (by omega)
      rintro FZ wz jz ⟨hsz, hoz, hFz⟩
      have hlz : Bs wz G A n l := hl.only hoz hG
      generalize hos : (if p.more = true then notedL s1.cf.parts s1.now s1.ins (kyP p) s1.maps[i].addr else s1.ins) = os at *
      have hsz0 := hsz
      obtain ⟨B1, m1, d1, E1, B2, m2, d2, E2, B3, m3, d3, E3, hrz, hEe⟩ := hsz0
      have hbz := hrz.b
      have hmz := hrz.m
      dsimp only at hbz hmz
      have hnz : _ = m1 := hmz.sl.num nmC_len (by decide)
      have hm1 : i < m1 := hnz ▸ hi
      obtain ⟨gz, rfl, rfl⟩ := hmz.g_of (by omega)
      conv => whnf
      refine VDraw.abs fun N6 hN6 => ?_
      refine VDraw.held (fun w' => Only [] wz w') [0, 1, 2, 3, 4, 5, 6, 7, 8, 9, 10, 11, 12, 13, 14, 15, 16, 17, 18, 19, 20] (by kernel_rfl) (by kernel_rfl) (Only.refl [] wz).drew ?_
      conv => whnf
      (refine ⟨_, fun w' hw' => Loads.one (by kernel_rfl) ((hbz.only hw' (by simp)).ntM okc), ?_⟩; conv => whnf)
      refine ⟨_, _, rfl, i, 0 + i * 20, rfl, hm1, rfl, ?_⟩
      conv => whnf
      refine ⟨_, fun w' hw' => (hmz.sl.o hw').sub nmC_len hi (nmC_addr _) rfl (by kernel_rfl) (by rw [adP_len]; kernel_rfl), ?_⟩
      conv => whnf
      (refine ⟨_, fun w' hw' => Loads.one (by kernel_rfl) ((hbz.only hw' (by simp)).ntM okc), ?_⟩; conv => whnf)
      refine ⟨_, _, rfl, i, 0 + i * 20, rfl, hm1, rfl, ?_⟩
      conv => whnf
      refine ⟨_, fun w' hw' => Loads.one (by kernel_rfl) ((hmz.sl.o hw').fld nmC_len hi ((nm_tail _ 0).trans rfl)), ?_⟩
      conv => whnf
      rw [adP_id okm]
      refine (rturnP_does (k := 16) (hlz.o (Only.refl [] wz).drew) h20 (by omega) (by omega) (.inr rfl) okm hqb).mono ?_
      intro v wy hv
      have hv2 := hv
      obtain ⟨_, _, _, _, _, _, hoy, _⟩ := hv2
      refine ⟨(Only.refl [] wz).drew.t0 hoy, ?_⟩
      conv => whnf
      have hE : Ends30 w wy T F (.tuple ⟨[v, .int .i64 0]⟩) (cameR s1 p l) := by
        rw [hres]
        obtain ⟨_, _, _, h⟩ := Ends30.own hv (hsz.o (Only.refl [] wz).drew) hoz.drew hFz
        exact h
      obtain ⟨X, nX, cX, FX, rfl, -⟩ := hv
      conv => whnf
      refine hN6 _ _ ?_
      conv => whnf
      exact hE
  · rw [if_neg h17] at hres
    conv => whnf
    refine hN2 _ _ ?_
    conv => whnf
    (refine ⟨_, Loads.one (by kernel_rfl) (b87.pkProto okp), ?_⟩; conv => whnf)
    refine VIf.eq (fun h => (h17 h).elim) (fun _ => ?_)
    conv => whnf
    refine ⟨_, b87.pkAll okp, ?_⟩
    conv => whnf
    refine (rquote_does (hp4.o hw7) (by omega) (by omega)).mono ?_
    rintro v w9 ⟨rfl, ho9⟩
    have hw9 := hw7.t0 ho9
    have hb9 := hb7.only ho9 (by simp)
    have hl9 := hl7.o ho9
    cases hq : quotedB p with
    | false =>
      rw [if_pos (by rw [hq]; rfl)] at hres
      have eV : quoteV p (headL l) = .tuple ⟨[.int .i64 0, .int .i64 0, .bool false]⟩ := by unfold quoteV; rw [hq]; rfl
      rw [eV]
      conv => whnf
      refine VDraw.abs fun N3 hN3 => ?_
      refine VDraw.q (by kernel_rfl) (by kernel_rfl) ?_
      conv => whnf
      intro w10 ho10
      refine hN3 _ _ ?_
      conv => whnf
      exact hfail _ _ (hw9.t0 ho10) hres
    | true =>
    rw [hq, Bool.true_and] at hres
    have eV : quoteV p (headL l) = .tuple ⟨[.int .i64 ((headL l + 8 : Nat) : Int), .int .i64 ((headL l + 8 + qN p : Nat) : Int), .bool true]⟩ := by unfold quoteV; rw [hq]; rfl
    rw [eV]
    obtain ⟨g1, g2, g3⟩ := quoted_facts hq
    have hql : (qL p).length = p.data.length - 8 := by unfold qL; rw [List.length_drop]
    have e12 : IntKind.i64.wrap (((headL l + 8 : Nat) : Int) + 12) = ((headL l + 8 + 12 : Nat) : Int) := by rw [wi64]; omega
    have ead : ((4 : Int), ((l.drop (headL l + 8 + 12)).take (n - (headL l + 8 + 12))).take 4 ++ z12) = qaddrA ((qL p).take (qN p)) 12 := by
      rw [← q_addr (k := 12) hdat (by omega), List.take_take, Nat.min_eq_left (by omega)]
    have okq : okAd (qaddrA ((qL p).take (qN p)) 12) := okAd4 (by simp; omega)
    conv => whnf
    refine VDraw.abs fun N3 hN3 => ?_
    refine VDraw.q (by kernel_rfl) (by kernel_rfl) ?_
    conv => whnf
    refine ⟨headL l + 8 + 12, n, c, e12, rfl, rfl, by omega, by omega, by omega, _, n - (headL l + 8 + 12), c - (headL l + 8 + 12), rfl, rfl, rfl, ?_⟩
    conv => whnf
    refine ⟨_, fun w' hw' => (raddress30_does ((hl9.o hw').cut (lo := headL l + 8 + 12) (hi := n) (m := c) (by omega) (by omega) (by omega) rfl) (by omega) (by omega)).q hw', ?_⟩
    rw [ead]
    conv => whnf
    refine ⟨_, fun w' hw' => (hb9.only hw' (by simp)).ntOutside okc, ?_⟩
    conv => whnf
    refine ⟨_, eql_ad okq okc.outside _ _, ?_⟩
    conv => whnf
    intro w10 ho10
    refine hN3 _ _ ?_
    have hw10 := hw9.t0 ho10
    conv => whnf
    refine VIf.not (VIf.of (b := decide (qaddrA ((qL p).take (qN p)) 12 = s1.cf.outside)) (fun f3 => ?_) (fun f3 => ?_))
    rotate_left
    · rw [if_pos f3] at hres
      conv => whnf
      exact hfail _ _ hw10 hres
    rw [if_neg (by rw [f3]; decide)] at hres
    conv => whnf
    refine (rget30_does (k := headL l + 8 + qN p) (hl4.o hw10) (by omega) (by omega)).mono ?_
    rintro v w11 ⟨rfl, ho11⟩
    have eqp := q_port (k := 0) hdat
    rw [Nat.add_zero] at eqp
    rw [eqp]
    have hw11 := hw10.t0 ho11
    conv => whnf
    refine (rout_does (hb.only hw11 (by simp)) okc (hz.o hw11) (by omega)).mono ?_
    rintro v w12 ⟨rfl, ho12⟩
    have hw12 := hw11.t0 ho12
    have hb12 := hb.only hw12 (by simp)
    have hz12 := hz.o hw12
    rcases find_idx (outIs (wordL ((qL p).drop (qN p)) 0)) s1.maps with ⟨f1, f2⟩ | ⟨i, hi, f1, f2⟩
    · rw [f2] at hres
      conv => whnf
      refine VIf.dec (fun _ => ?_) (fun hne => (hne f1).elim)
      conv => whnf
      exact hfail _ _ hw12 hres
    rw [f2] at hres
    rw [f1]
    have hres : cameR s1 p l = (0, quoteL (addressL l 16 s1.maps[i].addr) 12 s1.maps[i].addr s1.maps[i].port (headL l), s1) := hres
    have hqb := hpq1 _ (List.getElem_mem hi)
    have okm := ok1.maps _ (List.getElem_mem hi)
    obtain ⟨b, off, hA1, -⟩ := hz.some_ (by omega)
    subst hA1
    conv => whnf
    (refine ⟨_, Loads.one (by kernel_rfl) (hb12.ntM okc), ?_⟩; conv => whnf)
    refine ⟨_, _, rfl, i, off + i * 20, rfl, by omega, rfl, ?_⟩
    conv => whnf
    refine ⟨_, hz12.sub nmC_len hi (nmC_addr _) rfl (by kernel_rfl) (by rw [adP_len]; kernel_rfl), ?_⟩
    conv => whnf
    rw [adP_id okm]
    refine (rturnA_does (k := 16) (hl4.o hw12) (by omega) (by omega) (.inr rfl) (by omega) okm).mono ?_
    rintro v w13 ⟨X, nX, cX, FX, rfl, hrX, ho13, hFX⟩
    have hw13 := hw12.t0 ho13
    have hb13 := hb.only hw13 (by simp)
    have hz13 := hz.o hw13
    have hnX := hrX.len8
    rw [addressL_len] at hnX
    have nXT : T ∉ FX := fun hm => by
      have := hFX _ hm
      have := hb12.lt
      omega
    conv => whnf
    refine VDraw.abs fun N4 hN4 => ?_
    refine VDraw.held (fun w' => Blk w' T 106 ⟨natC s1.cf s1.now (.slice (some ⟨b, off, none⟩) n1 c1) (.slice A2 n2 c2) (.slice A3 n3 c3)⟩ ∧ Sl w' 20 F1 (some ⟨b, off, none⟩) n1 (s1.maps.flatMap nmC)) [0, 1, 2, 3, 4, 5, 6, 7, 8, 9, 10, 11, 12, 13, 14, 15, 16, 17, 18, 19, 20] (by kernel_rfl) (by kernel_rfl) ⟨hb13.drew, hz13⟩ ?_
    conv => whnf
    (refine ⟨_, fun w' hw' => Loads.one (by kernel_rfl) (hw'.1.ntM okc), ?_⟩; conv => whnf)
    refine ⟨_, _, rfl, i, off + i * 20, rfl, by omega, rfl, ?_⟩
    conv => whnf
    refine ⟨_, fun w' hw' => hw'.2.sub nmC_len hi (nmC_addr _) rfl (by kernel_rfl) (by rw [adP_len]; kernel_rfl), ?_⟩
    conv => whnf
    (refine ⟨_, fun w' hw' => Loads.one (by kernel_rfl) (hw'.1.ntM okc), ?_⟩; conv => whnf)
    refine ⟨_, _, rfl, i, off + i * 20, rfl, by omega, rfl, ?_⟩
    conv => whnf
    (refine ⟨_, fun w' hw' => Loads.one (by kernel_rfl) (hw'.2.fld nmC_len hi ((nm_tail _ 0).trans rfl)), ?_⟩; conv => whnf)
    rw [adP_id okm]
    have hu : udpAt (addressL l 16 s1.maps[i].addr) (headL l) = headL l + 8 + qN p := by
      rw [← udpAt_e hdat]
      unfold udpAt
      rw [addressL_getD (.inr rfl) (by omega)]
    have hF1 : ∀ k ∈ F1, k ∉ FX := fun k hk hm => by
      have h1 := hr.m.lt k hk
      have h2 := hFX k hm
      have h3 := hw12.size
      omega
    refine (rtq12_does (u := headL l + 8 + qN p) (hrX.drew) (by omega) (by omega) (by omega) okm hqb).mono ?_
    rintro v w14 ⟨rfl, hr14, ho14⟩
    have hb14 := hb13.drew.only ho14 nXT
    refine ⟨⟨hb14, (hz13.o (Only.refl [] w13).drew).only ho14 hF1⟩, ?_⟩
    rw [← hu] at hr14
    rw [tq_eq (.inl rfl) (by rw [hu]; omega) (by rw [hu, addressL_len]; omega) hqb] at hr14
    have how14 : Only [] w12 w14 := (ho13.drew).trans ho14 (fun k hk => .inr (hFX k hk))
    have hOwn : Own w12 w14 5 1 ((quoteL (addressL l 16 s1.maps[i].addr) 12 s1.maps[i].addr s1.maps[i].port (headL l)).map u8) (.slice X nX cX) := ⟨X, nX, cX, FX, rfl, hr14, how14, hFX⟩
    have hE := hdone hw12 hOwn hres
    conv => whnf
    refine hN4 _ _ ?_
    conv => whnf
    exact hE
end Go.Proofs.YtofomopdaponbaaGreatDoor
/-
  NatPlays: one packet through a nat and the document's.
-/
namespace Go.Proofs.YtofomopdaponbaaGreatDoor
open Go.RowKit
set_option linter.unusedVariables false
set_option linter.unusedSimpArgs false

/-- A nat and the document's, in one state. -/
structure Pair (w : World) (T : Nat) (s : NatS) (F : List Nat) (U : Nat) (R : List Nat) : Prop where
  st : St w T s F
  rf : St30 w U s R
  d : ∀ k ∈ F, k ∉ R
  inv : Inv s.now s
theorem Pair.only {w w' : World} {T U : Nat} {s : NatS} {F R G : List Nat} (h : Pair w T s F U R) (ho : Only G w w') (h1 : ∀ k ∈ F, k ∉ G) (h2 : ∀ k ∈ R, k ∉ G) : Pair w' T s F U R := ⟨h.st.only ho h1, h.rf.only ho h2, h.d, h.inv⟩
theorem inv_outAny {s : NatS} (h : Inv s.now s) (now : Int) (l : List UInt8) : Inv (outS s now l).2.2.now (outS s now l).2.2 := by
  by_cases hb : betweenI now s.now 1099511627776 = true
  · have hb2 := hb
    unfold betweenI at hb2
    simp only [Bool.and_eq_true, decide_eq_true_eq] at hb2
    have h2 := h.outS hb2.1 hb2.2 l
    rw [h2.at_]
    exact h2
  · have e : outS s now l = (1, [], s) := by
      have e1 : passesS s now = (false, s) := if_neg hb
      have e2 : beginE s now l = 1 := by
        unfold beginE
        rw [e1]
        rfl
      unfold outS
      rw [e2, if_pos (by decide), e1]
    rw [e]
    exact h
theorem inv_cameAny {s : NatS} (h : Inv s.now s) (now : Int) (l : List UInt8) : Inv (cameS s now l).2.2.now (cameS s now l).2.2 := by
  by_cases hb : betweenI now s.now 1099511627776 = true
  · have hb2 := hb
    unfold betweenI at hb2
    simp only [Bool.and_eq_true, decide_eq_true_eq] at hb2
    have h2 := h.cameS hb2.1 hb2.2 l
    rw [h2.at_]
    exact h2
  · have e : cameS s now l = (1, [], s) := by
      have e1 : passesS s now = (false, s) := if_neg hb
      have e2 : beginE s now l = 1 := by
        unfold beginE
        rw [e1]
        rfl
      unfold cameS
      rw [e2, if_pos (by decide), e1]
    rw [e]
    exact h
theorem sameL_self (l : List UInt8) : sameL l l = true := by simp [sameL]
theorem inv_pair {s : NatS} (h : Inv s.now s) : (∀ m ∈ s.maps, 0 ≤ m.out ∧ m.out ≤ 65535) ∧ (∀ m ∈ s.maps, 0 ≤ m.port ∧ m.port ≤ 65535) ∧ (∀ m ∈ s.maps, s.cf.first ≤ m.out ∧ m.out ≤ s.cf.last) ∧ (∀ m ∈ s.maps, okNm m) := by
  have h1 := h.ok.first
  have h2 := h.ok.last
  have h3 := h.n1
  refine ⟨fun m hm => ?_, fun m hm => ?_, fun m hm => ?_, fun m hm => ?_⟩
  · obtain ⟨k1, k2, -⟩ := h.each m hm
    omega
  · obtain ⟨-, -, -, -, -, -, k1, k2⟩ := h.each m hm
    exact ⟨k1, k2⟩
  · obtain ⟨k1, k2, -⟩ := h.each m hm
    exact ⟨k1, k2⟩
  · obtain ⟨k1, k2, -, k4, k5, -, k7, k8⟩ := h.each m hm
    exact ⟨h.ok.maps m hm, by omega, by omega, by omega⟩
/-- A list sorted by distinct ports. -/
theorem sorted_strict {z y : List Nm} (hp : y.Perm z) (hs : Sorted y 0 y.length) (hn : (z.map (·.out)).Nodup) : y.Pairwise (fun a b => a.out < b.out) := by
  have hny : (y.map (·.out)).Nodup := (hp.map (·.out)).nodup_iff.2 hn
  rw [List.pairwise_iff_getElem]
  intro i j hi hj hij
  have hle := hs i j hj hij (Nat.zero_le _) hj
  have hne : (y[i]).out ≠ (y[j]).out := fun e => by
    have := (List.pairwise_iff_getElem.1 hny) i j (by simpa using hi) (by simpa using hj) hij
    simp at this
    exact this e
  omega
set_option maxHeartbeats 8000000 in
set_option maxRecDepth 100000 in
theorem plays_does {w : World} {T U : Nat} {s : NatS} {F R : List Nat} {o : Op30} (h : Pair w T s F U R) (hs : Shp w) (hsF : 1 ∉ F) (ho : OpOk w o) (hol : o.l.length ≤ 140737488351232) (hcap : o.l.length ≤ o.c) (hoF : ∃ G, Bs w G o.A o.l.length o.l ∧ ∀ k ∈ G, k ∉ F ∧ k ∉ R ∧ k < w.heap.size) :
    Does Tryz.prog 14 [.pointer (some ⟨T, 0, none⟩), .pointer (some ⟨U, 0, none⟩), .agg ⟨encOp30 o⟩] w (fun v w' => v = .bool true ∧ ∃ s' F' R', Pair w' T s' F' U R' ∧ Only (F ++ R) w w' ∧ (∀ k ∈ F', k ∈ F ∨ w.heap.size ≤ k) ∧ (∀ k ∈ R', k ∈ R ∨ w.heap.size ≤ k)) := by
  obtain ⟨G, hB, hGd⟩ := hoF
  have ok := h.inv.ok
  have okc := ok.cf
  have hpr := inv_pair h.inv
  have hA := Only.alloc (Only.refl [] w) (.cells ⟨encOp30 o⟩ 40)
  have b5 := Blk.new w 40 ⟨encOp30 o⟩
  have hlF := h.st.lt
  have hlR := h.rf.lt
  have nF5 : w.heap.size ∉ F := fun hm => by have := hlF _ hm; omega
  have nR5 : w.heap.size ∉ R := fun hm => by have := hlR _ hm; omega
  have hnow := h.rf
  obtain ⟨A1, n1, c1, F1, A2, n2, c2, F2, A3, n3, c3, F3, hr, -⟩ := hnow
  have hbU := hr.b
  refine Does.enter (fn := Tryz.f14) (by kernel_rfl) rfl (by kernel_rfl) (by kernel_rfl) ?_
  conv => whnf
  refine VDraw.abs fun N0 hN0 => ?_
  refine VDraw.q (by kernel_rfl) (by kernel_rfl) ?_
  conv => whnf
  (refine ⟨_, fun w' hw' => Loads.one (by kernel_rfl) ((hbU.only (hA.t0 hw') (by simp)).ntNow okc), ?_⟩; conv => whnf)
  (refine ⟨_, fun w' hw' => Loads.one (by kernel_rfl) ((b5.only hw' (by simp)).at (i := 1) rfl), ?_⟩; conv => whnf)
  intro w2 ho2
  refine hN0 _ _ ?_
  have hw2 := hA.t0 ho2
  have b52 := b5.only ho2 (by simp)
  clear hbU hr
  generalize hnw : IntKind.i64.wrap (s.now + o.step) = now
  conv => whnf
  (refine ⟨_, Loads.one (by kernel_rfl) (b52.at (i := 2) rfl), ?_⟩; conv => whnf)
  refine (own_does (hB.o hw2) ho.len).mono ?_
  rintro v w3 ⟨Af, nf, cf, Ff, rfl, hrf, ho3, hFf⟩
  have hnf := hrf.len8
  subst hnf
  have hw3 := hw2.t0 ho3
  have b53 := b52.only ho3 (by simp)
  conv => whnf
  refine vFall.append 5 1 1 rfl (by kernel_rfl) rfl (hrf.alloc _) rfl (Sl.new w3 5 1 [u8 165, u8 166] 2 rfl) (by simp [u8, Value.oneCell']) (by omega) (by omega) ?_
  intro A4 c4 F4 w4 hr4 ho4 hF4
  obtain ⟨gf, rfl, rfl⟩ := hr4.g_of (by omega)
  have hal3 := (Only.refl [] w3).alloc (.cells ⟨[u8 165, u8 166]⟩ 5)
  have hw4 : Only [] w w4 := (hw3.t0 hal3).trans ho4 (fun x hx => .inr (Nat.le_trans hw2.size (hFf x hx)))
  have b54 := b53.only (hal3.zf ho4) (fun hm => by have := hFf _ hm; have := b52.lt; omega)
  have hF4n : ∀ k ∈ [gf], w2.heap.size ≤ k := fun k hk => by
    rcases hF4 k hk with h1 | h1
    · exact hFf k h1
    · exact Nat.le_trans (ho3.t0 hal3).size h1
  have hful := hr4.cast (ys := (o.l ++ [165, 166]).map u8) (by rw [List.map_append]; rfl)
  have hle4 := hful.le
  have hmx4 := hle4.2
  unfold maxLen at hmx4
  have hlf4 := hful.lt
  conv => whnf
  (refine ⟨_, Loads.one (by kernel_rfl) (b54.at (i := 2) rfl), ?_⟩; conv => whnf)
  refine ⟨0, o.l.length, c4, rfl, rfl, rfl, by omega, by omega, by omega, _, o.l.length, c4 - 0, rfl, rfl, rfl, ?_⟩
  have hbs := hful.bs.cut (lo := 0) (hi := o.l.length) (m := c4) (by omega) (by omega) (by omega) rfl
  rw [List.drop_zero, Nat.sub_zero, List.take_left] at hbs
  have h4 := h.only hw4 (by simp) (by simp)
  have hs4 := hs.o hw4
  have z2 := hw2.size
  have hF4F : ∀ k ∈ [gf], k ∉ F := fun k hk hm => by have := hF4n k hk; have := hlF k hm; omega
  have hF4R : ∀ k ∈ [gf], k ∉ R := fun k hk hm => by have := hF4n k hk; have := hlR k hm; omega
  have h52 : w.heap.size < w2.heap.size := b52.lt
  conv => whnf
  refine VJoin.cut (α := Option Addr × Nat × List Nat × Option Addr × Nat × List Nat × List Nat × List Nat) [(10, 18), (41, 77)]
    (fun | (X, cX, FX, Y, cY, FY, F', R') => [(10, .slice X (if o.inn = true then cameS s now o.l else outS s now o.l).2.1.length cX), (11, .slice Y (if o.inn = true then cameS s now o.l else outS s now o.l).2.1.length cY), (12, .int .i64 (if o.inn = true then cameS s now o.l else outS s now o.l).1), (13, .int .i64 (if o.inn = true then cameS s now o.l else outS s now o.l).1)])
    (fun | (X, cX, FX, Y, cY, FY, F', R') => fun w' => Bs w' FX X (if o.inn = true then cameS s now o.l else outS s now o.l).2.1.length (if o.inn = true then cameS s now o.l else outS s now o.l).2.1 ∧ Bs w' FY Y (if o.inn = true then cameS s now o.l else outS s now o.l).2.1.length (if o.inn = true then cameS s now o.l else outS s now o.l).2.1 ∧
      Pair w' T (if o.inn = true then cameS s now o.l else outS s now o.l).2.2 F' U R' ∧ Only (F ++ R) w4 w' ∧ (∀ k ∈ FX, w4.heap.size ≤ k) ∧ (∀ k ∈ FY, w4.heap.size ≤ k) ∧ (∀ k ∈ F', k ∈ F ∨ w4.heap.size ≤ k) ∧ (∀ k ∈ R', k ∈ R ∨ w4.heap.size ≤ k)) (by kernel_rfl) ?_ ?_
  · conv => whnf
    (refine ⟨_, Loads.one (by kernel_rfl) (b54.at (i := 0) rfl), ?_⟩; conv => whnf)
    refine VIf.of (b := o.inn) (fun hin => ?_) (fun hin => ?_)
    · rw [if_pos hin]
      conv => whnf
      refine (in_does h4.st ok hbs hF4F hs4 hsF ho.len (by omega) (by omega)).mono ?_
      rintro v w5 ⟨X, cX, FX, F', rfl, hX, hst5, ho5, hF', hFX⟩
      have b55 := b54.only ho5 nF5
      have hB5 : Bs w5 G o.A o.l.length o.l := (hB.o hw4).only ho5 (fun k hk => (hGd k hk).1)
      have hrf5 := h4.rf.only ho5 (fun k hk hm => h4.d k hm hk)
      have z5 := ho5.size
      conv => whnf
      (refine ⟨_, Loads.one (by kernel_rfl) (b55.at (i := 2) rfl), ?_⟩; conv => whnf)
      refine (rin30_does hrf5 ok hB5 (fun k hk => (hGd k hk).2.1) ho.len hcap hpr.1 hpr.2.1).mono ?_
      rintro v w6 ⟨Y, cY, FY, R', rfl, hY, hst6, ho6, hR', hFY⟩
      have z6 := ho6.size
      have hR5 : ∀ k ∈ R, k < w4.heap.size := h4.rf.lt
      have hXR : ∀ k ∈ FX, k ∉ R := fun k hk hm => by have := (hFX k hk).1; have := hR5 k hm; omega
      have hF'R : ∀ k ∈ F', k ∉ R := fun k hk hm => by
        rcases hF' k hk with h1 | h1
        · exact h4.d k h1 hm
        · have := hR5 k hm; omega
      have hst6' := hst5.only ho6 hF'R
      conv => whnf
      refine ⟨(X, cX, FX, Y, cY, FY, F', R'), ⟨rfl, rfl, rfl, rfl, trivial⟩, (Row.bs hX).only ho6 hXR, hY, ⟨hst6', hst6, fun k hk hm => ?_, inv_cameAny h.inv now o.l⟩, (ho5.mono (fun x hx => .inl (by simp [hx]))).trans ho6 (fun x hx => .inl (by simp [hx])), fun k hk => (hFX k hk).1, fun k hk => Nat.le_trans z5 (hFY k hk).1, hF', fun k hk => (hR' k hk).imp id (fun h => Nat.le_trans z5 h)⟩
      rcases hR' k hm with h1 | h1
      · exact hF'R k hk h1
      · have := hst5.lt k hk; omega
    · rw [if_neg (by rw [hin]; decide)]
      conv => whnf
      refine (out_does h4.st ok hbs hF4F hs4 hsF ho.len (by omega) (by omega)).mono ?_
      rintro v w5 ⟨X, cX, FX, F', rfl, hX, hst5, ho5, hF', hFX⟩
      have b55 := b54.only ho5 nF5
      have hB5 : Bs w5 G o.A o.l.length o.l := (hB.o hw4).only ho5 (fun k hk => (hGd k hk).1)
      have hrf5 := h4.rf.only ho5 (fun k hk hm => h4.d k hm hk)
      have z5 := ho5.size
      conv => whnf
      (refine ⟨_, Loads.one (by kernel_rfl) (b55.at (i := 2) rfl), ?_⟩; conv => whnf)
      refine (rout30_does hrf5 ok hB5 (fun k hk => (hGd k hk).2.1) ho.len hcap hpr.1).mono ?_
      rintro v w6 ⟨Y, cY, FY, R', rfl, hY, hst6, ho6, hR', hFY⟩
      have z6 := ho6.size
      have hR5 : ∀ k ∈ R, k < w4.heap.size := h4.rf.lt
      have hXR : ∀ k ∈ FX, k ∉ R := fun k hk hm => by have := (hFX k hk).1; have := hR5 k hm; omega
      have hF'R : ∀ k ∈ F', k ∉ R := fun k hk hm => by
        rcases hF' k hk with h1 | h1
        · exact h4.d k h1 hm
        · have := hR5 k hm; omega
      have hst6' := hst5.only ho6 hF'R
      conv => whnf
      refine ⟨(X, cX, FX, Y, cY, FY, F', R'), ⟨rfl, rfl, rfl, rfl, trivial⟩, (Row.bs hX).only ho6 hXR, hY, ⟨hst6', hst6, fun k hk hm => ?_, inv_outAny h.inv now o.l⟩, (ho5.mono (fun x hx => .inl (by simp [hx]))).trans ho6 (fun x hx => .inl (by simp [hx])), fun k hk => (hFX k hk).1, fun k hk => Nat.le_trans z5 (hFY k hk).1, hF', fun k hk => (hR' k hk).imp id (fun h => Nat.le_trans z5 h)⟩
      rcases hR' k hm with h1 | h1
      · exact hF'R k hk h1
      · have := hst5.lt k hk; omega
  rintro ⟨X, cX, FX, Y, cY, FY, F', R'⟩ wr j ⟨hX, hY, hP, hor, hFX, hFY, hF', hR'⟩
  generalize (if o.inn = true then cameS s now o.l else outS s now o.l) = r at *
  obtain ⟨re, rl, rs⟩ := r
  dsimp only at hX hY hP
  have okr := hP.inv.ok
  have hprr := inv_pair hP.inv
  have b5r := b54.only hor (by simp [nF5, nR5])
  have hBr : Bs wr G o.A o.l.length o.l := (hB.o hw4).only hor (fun k hk => by simp [(hGd k hk).1, (hGd k hk).2.1])
  have hfr := hful.only hor (fun k hk => by simp [hF4F k hk, hF4R k hk])
  have zr := hor.size
  conv => whnf
  refine (notes_does hP.st okr).mono ?_
  rintro v w7 ⟨rfl, ho7⟩
  conv => whnf
  refine (rnotes_does (hP.rf.o ho7) okr).mono ?_
  rintro v w8 ⟨rfl, ho8⟩
  have hw8 := ho7.t0 ho8
  conv => whnf
  (refine ⟨_, Loads.one (by kernel_rfl) ((b5r.only hw8 (by simp)).at (i := 2) rfl), ?_⟩; conv => whnf)
  refine (own_does (hBr.o hw8) ho.len).mono ?_
  rintro v w9 ⟨Ag, ng, cg, Fg, rfl, hrg, ho9, hFg⟩
  have hng := hrg.len8
  subst hng
  have hw9 := hw8.t0 ho9
  conv => whnf
  refine vFall.append 5 1 1 rfl (by kernel_rfl) rfl (hrg.alloc _) rfl (Sl.new w9 5 1 [u8 165, u8 166] 2 rfl) (by simp [u8, Value.oneCell']) (by omega) (by omega) ?_
  intro Ah ch Fh w10 hrh ho10 hFh
  have hal9 := (Only.refl [] w9).alloc (.cells ⟨[u8 165, u8 166]⟩ 5)
  have hw10 : Only [] wr w10 := (hw9.t0 hal9).trans ho10 (fun x hx => .inr (Nat.le_trans hw8.size (hFg x hx)))
  have hrh' := hrh.cast (ys := (o.l ++ [165, 166]).map u8) (by rw [List.map_append]; rfl)
  conv => whnf
  refine (same_does ((hfr.only hw10 (by simp)).bs) hrh'.bs).mono ?_
  rintro v w11 ⟨rfl, rfl⟩
  rw [sameL_self]
  have hfr10 := hfr.only hw10 (by simp)
  have hX10 := hX.only hw10 (by simp)
  have hY10 := hY.only hw10 (by simp)
  have hP10 := hP.only hw10 (by simp) (by simp)
  have g4 : gf < w4.heap.size := hlf4 gf (by simp)
  have gX : ∀ k ∈ FX, k ∉ [gf] := fun k hk hm => by
    obtain rfl : k = gf := by simpa using hm
    have := hFX _ hk
    omega
  have gY : ∀ k ∈ FY, k ∉ [gf] := fun k hk hm => by
    obtain rfl : k = gf := by simpa using hm
    have := hFY _ hk
    omega
  have gF' : ∀ k ∈ F', k ∉ [gf] := fun k hk hm => by
    obtain rfl : k = gf := by simpa using hm
    rcases hF' _ hk with h1 | h1
    · exact hF4F k (by simp) h1
    · omega
  have gR' : ∀ k ∈ R', k ∉ [gf] := fun k hk hm => by
    obtain rfl : k = gf := by simpa using hm
    rcases hR' _ hk with h1 | h1
    · exact hF4R k (by simp) h1
    · omega
  conv => whnf
  refine VLoop.inv (α := Nat × List UInt8) [(23, 24), (94, 103)] (fun | (i, z) => [(23, .int .i64 (i : Nat))]) (fun | (i, z) => fun w' => i ≤ o.l.length + 2 ∧ Row w' 5 1 [gf] (some ⟨gf, 0, none⟩) (o.l.length + 2) c4 (z.map u8) ∧ Only [gf] w10 w') (fun | (i, z) => o.l.length + 2 - i) (0, o.l ++ [165, 166]) (by kernel_rfl) ⟨rfl, trivial⟩ ⟨Nat.zero_le _, hfr10, Only.refl _ _⟩ ?_
  rintro ⟨i, z⟩ wl jl ⟨hi, hrow, hol2⟩
  have ei : IntKind.i64.wrap ((i : Int) + 1) = ((i + 1 : Nat) : Int) := by rw [wi64]; omega
  conv => whnf
  refine VIf.dec (fun ht => ?_) (fun ht => ?_)
  · have ht : (i : Int) < ((o.l.length + 2 : Nat) : Int) := ht
    obtain ⟨g', e1, e2, hf, ⟨u, hu⟩, hr1⟩ := hrow.put (i := i) (v := u8 238) (by omega)
    cases e1
    conv => whnf
    refine ⟨_, _, rfl, i, i, rfl, by omega, p0 _, ?_⟩
    conv => whnf
    refine ⟨_, Stores.one (by kernel_rfl) rfl hu hf, ?_⟩
    conv => whnf
    refine ⟨(i + 1, z.set i 238), ⟨congrArg (Value.int .i64) ei, trivial⟩, ⟨by omega, ?_, hol2.put (.inl (by simp))⟩, by show o.l.length + 2 - (i + 1) < o.l.length + 2 - i; omega⟩
    rw [List.map_set]
    exact hr1
  have hXl := hX10.only hol2 gX
  have hYl := hY10.only hol2 gY
  have hPl := hP10.only hol2 gF' gR'
  have hnm : (rs.maps.length : Int) ≤ 256 := Int.le_trans okr.nmaps okr.cmaps
  conv => whnf
  refine (same_does hXl hYl).mono ?_
  rintro v w12 ⟨rfl, rfl⟩
  rw [sameL_self]
  conv => whnf
  refine VIf.eq (fun _ => ?_) (fun h => (h rfl).elim)
  conv => whnf
  refine VIf.eq (fun _ => ?_) (fun h => (h rfl).elim)
  conv => whnf
  refine VIf.eq (fun _ => ?_) (fun h => (h rfl).elim)
  conv => whnf
  refine (maps_does hPl.st okr (by omega)).mono ?_
  rintro v w13 ⟨y, A13, n13, c13, G13, rfl, hperm, hsort, hr13, ho13, hG13⟩
  have hstr := sorted_strict hperm hsort hPl.inv.outs
  conv => whnf
  refine (rmaps_does (hPl.rf.o ho13) okr hperm hstr hprr.2.2.1).mono ?_
  rintro v w14 ⟨A14, n14, c14, G14, rfl, hr14, ho14, hG14⟩
  have hn13 := hr13.sl.num nmC_len (by decide)
  have hyl := hperm.length_eq
  have oky : ∀ m ∈ y, okNm m := fun m hm => hprr.2.2.2 m (hperm.mem_iff.1 hm)
  conv => whnf
  refine (sameMaps_does (hr13.sl.o ho14) hr14.sl oky oky (by omega)).mono ?_
  rintro v w15 ⟨rfl, ho15⟩
  have hw15 : Only [] wl w15 := (ho13.t0 ho14).t0 ho15
  conv => whnf
  refine ⟨congrArg Value.bool (decide_eq_true rfl), rs, F', R', hPl.only hw15 (by simp) (by simp), ?_, fun k hk => (hF' k hk).imp id (fun h => by have := hw4.size; omega), fun k hk => (hR' k hk).imp id (fun h => by have := hw4.size; omega)⟩
  have h1 : Only (F ++ R) w wr := hw4.up.ff hor
  refine ((h1.f0 hw10).trans hol2 (fun k hk => ?_)).f0 hw15
  obtain rfl : k = gf := by simpa using hk
  have := hF4n k (by simp)
  exact .inr (by omega)
end Go.Proofs.YtofomopdaponbaaGreatDoor
/-
  NatPlays, walked.
-/
namespace Go.Proofs.YtofomopdaponbaaGreatDoor
open Go.RowKit
set_option linter.unusedVariables false
set_option linter.unusedSimpArgs false

theorem OpOk.o {w w' : World} {o : Op30} (h : OpOk w o) (ho : Only [] w w') : OpOk w' o := by
  obtain ⟨⟨G, hB, hG⟩, h2, h3⟩ := h
  exact ⟨⟨G, hB.o ho, fun k hk => Nat.lt_of_lt_of_le (hG k hk) ho.size⟩, h2, h3⟩
theorem inv_new {c : Cf} (ok : okCf c) (h : mayB c = true) : Inv (newS c).now (newS c) := new_inv ok h
set_option maxHeartbeats 8000000 in
set_option maxRecDepth 100000 in
theorem natPlays_does {W : World} {c : Cf} {A : Option Addr} {n cc : Nat} {G : List Nat} {z : List Op30} (okc : okCf c) (hs : Shp W) (hg : 1 < W.heap.size) (hz : Sl W 3 G A n (z.flatMap encOp30)) (hG : ∀ k ∈ G, k < W.heap.size)
    (hok : ∀ o ∈ z, OpOk W o ∧ o.l.length ≤ 140737488351232 ∧ o.l.length ≤ o.c) (hn : n ≤ cc ∧ cc * 40 ≤ 140737488351232) :
    Does Tryz.prog 3 [.agg ⟨cfC c⟩, .slice A n cc] W (fun v w' => v = .bool true ∧ Only [] W w') := by
  have hzl := hz.num encOp30_len (by decide)
  have hn : n ≤ 1099511627776000 := by omega
  have hA := Only.alloc (Only.refl [] W) (.cells ⟨cfC c⟩ 26)
  have b2 := Blk.new W 26 ⟨cfC c⟩
  have hlc := cf_len okc
  refine Does.enter (fn := Tryz.f3) (by kernel_rfl) rfl (by kernel_rfl) (by kernel_rfl) ?_
  conv => whnf
  refine (alive_does (hs.o hA) (Nat.lt_of_lt_of_le hg hA.size)).mono ?_
  rintro v w1 ⟨rfl, ho1⟩
  have hw1 := hA.t0 ho1
  have b21 := b2.only ho1 (by simp)
  conv => whnf
  refine ⟨_, Loads.all b21 (by kernel_rfl) (by rw [hlc]; kernel_rfl), ?_⟩
  conv => whnf
  refine (new_does okc).mono ?_
  intro v w2 hv2
  obtain ⟨ho2, hv2⟩ := hv2
  have hw2 := hw1.t0 ho2
  have b22 := b21.only ho2 (by simp)
  -- a packet of the script, through one pair
  have step : ∀ {w : World} {T U : Nat} {s : NatS} {F R : List Nat} {o : Op30}, Pair w T s F U R → Only [] W w → (∀ k ∈ F ++ R, W.heap.size ≤ k) → o ∈ z →
      Does Tryz.prog 14 [.pointer (some ⟨T, 0, none⟩), .pointer (some ⟨U, 0, none⟩), .agg ⟨encOp30 o⟩] w (fun v w' => v = .bool true ∧ ∃ s' F' R', Pair w' T s' F' U R' ∧ Only (F ++ R) w w' ∧ Only [] W w' ∧ (∀ k ∈ F' ++ R', k ∈ F ++ R ∨ w.heap.size ≤ k)) := fun {w T U s F R o} hP ho hge hm => by
    obtain ⟨h1, h2, h3⟩ := hok o hm
    obtain ⟨Go, hB, hGo⟩ := h1.bs
    refine (plays_does hP (hs.o ho) (fun hm => by have := hge _ (List.mem_append_left R hm); omega) (h1.o ho) h2 h3 ⟨Go, hB.o ho, fun k hk => ?_⟩).mono ?_
    · have hk1 := hGo k hk
      have hsz := ho.size
      exact ⟨fun hm => by have := hge _ (List.mem_append_left R hm); omega, fun hm => by have := hge _ (List.mem_append_right F hm); omega, by omega⟩
    · rintro v w' ⟨rfl, s', F', R', hP', hoF, hF', hR'⟩
      refine ⟨rfl, s', F', R', hP', hoF, ho.trans hoF (fun k hk => .inr (hge k hk)), fun k hk => ?_⟩
      rcases List.mem_append.1 hk with h | h
      · exact (hF' k h).imp (fun h => List.mem_append_left _ h) id
      · exact (hR' k h).imp (fun h => List.mem_append_right _ h) id
  have exm := may_ex
  rcases hv2 with ⟨hm, rfl⟩ | ⟨hm, T, rfl, hT, hSt⟩
  · conv => whnf
    refine ⟨_, Loads.all b22 (by kernel_rfl) (by rw [hlc]; kernel_rfl), ?_⟩
    conv => whnf
    refine (rnew_does okc).mono ?_
    rintro v w3 ⟨ho3, ⟨-, rfl⟩ | ⟨hm', -⟩⟩
    rotate_left
    · rw [hm] at hm'
      cases hm'
    have hw3 := hw2.t0 ho3
    conv => whnf
    refine example_does.mono ?_
    rintro v w4 ⟨rfl, ho4⟩
    have hw4 := hw3.t0 ho4
    conv => whnf
    refine (new_does exC_ok).mono ?_
    rintro v w5 ⟨ho5, ⟨hm', -⟩ | ⟨-, T2, rfl, hT2, hSt2⟩⟩
    · rw [exm] at hm'
      cases hm'
    have hw5 := hw4.t0 ho5
    conv => whnf
    refine example_does.mono ?_
    rintro v w6 ⟨rfl, ho6⟩
    have hw6 := hw5.t0 ho6
    have hSt26 := hSt2.o ho6
    conv => whnf
    refine (rnew_does exC_ok).mono ?_
    rintro v w7 ⟨ho7, ⟨hm', -⟩ | ⟨-, U2, rfl, hU2, hSr2⟩⟩
    · rw [exm] at hm'
      cases hm'
    have hw7 := hw6.t0 ho7
    have hSt27 := hSt26.o ho7
    have hltT := hSt26.lt T2 (by simp)
    have hP2 : Pair w7 T2 (newS exC) [T2] U2 [U2] := ⟨hSt27, hSr2, fun k hk hm => by
      obtain rfl : k = T2 := by simpa using hk
      obtain rfl : k = U2 := by simpa using hm
      omega, inv_new exC_ok exm⟩
    have hge2 : ∀ k ∈ [T2] ++ [U2], W.heap.size ≤ k := fun k hk => by
      have h4 := hw4.size
      have h6 := hw6.size
      simp at hk
      rcases hk with rfl | rfl <;> omega
    conv => whnf
    refine VLoop.inv (α := Nat × NatS × List Nat × List Nat) [(4, 5), (12, 15), (53, 86)] (fun | (i, s, F, R) => [(12, .int .i64 (i : Nat))]) (fun | (i, s, F, R) => fun w' => i ≤ n ∧ Pair w' T2 s F U2 R ∧ (∀ k ∈ F ++ R, W.heap.size ≤ k) ∧ Only [] W w') (fun | (i, s, F, R) => n - i) (0, newS exC, [T2], [U2]) (by kernel_rfl) ⟨rfl, trivial⟩ ⟨Nat.zero_le _, hP2, hge2, hw7⟩ ?_
    rintro ⟨i, s, F, R⟩ wr j ⟨hi, hP, hge, how⟩
    have ei : IntKind.i64.wrap ((i : Int) + 1) = ((i + 1 : Nat) : Int) := by rw [wi64]; omega
    conv => whnf
    refine VIf.dec (fun ht => ?_) (fun ht => ?_)
    rotate_left
    · conv => whnf
      exact ⟨rfl, how⟩
    have ht : (i : Int) < (n : Int) := ht
    have hil : i < z.length := by omega
    obtain ⟨b, off, rfl, -⟩ := hz.some_ (by omega)
    have fin : ∀ {w' : World} {s' : NatS} {F' R' : List Nat}, Pair w' T2 s' F' U2 R' → Only [] W w' → (∀ k ∈ F' ++ R', k ∈ F ++ R ∨ wr.heap.size ≤ k) → Pair w' T2 s' F' U2 R' ∧ (∀ k ∈ F' ++ R', W.heap.size ≤ k) ∧ Only [] W w' := fun h1 h2 h3 => ⟨h1, fun k hk => by
      have := how.size
      rcases h3 k hk with h | h
      · exact hge k h
      · omega, h2⟩
    conv => whnf
    refine VJoin.go (by kernel_rfl) ?_
    conv => whnf
    refine VIf.eq (fun _ => ?_) (fun _ => ?_)
    all_goals
      conv => whnf
      refine ⟨_, _, rfl, i, off + i * 3, rfl, by omega, rfl, ?_⟩
      conv => whnf
      refine ⟨_, (hz.o how).elem encOp30_len hil (by kernel_rfl) (by kernel_rfl), ?_⟩
      conv => whnf
      refine (step hP how hge (List.getElem_mem hil)).mono ?_
      rintro v w8 ⟨rfl, s', F', R', hP', -, how', hF'⟩
      conv => whnf
      exact ⟨(i + 1, s', F', R'), ⟨congrArg (Value.int .i64) ei, trivial⟩, ⟨by omega, fin hP' how' hF'⟩, by show n - (i + 1) < n - i; omega⟩
  · conv => whnf
    refine ⟨_, Loads.all b22 (by kernel_rfl) (by rw [hlc]; kernel_rfl), ?_⟩
    conv => whnf
    refine (rnew_does okc).mono ?_
    rintro v w3 ⟨ho3, ⟨hm', -⟩ | ⟨-, U, rfl, hU, hSr⟩⟩
    · rw [hm] at hm'
      cases hm'
    have hw3 := hw2.t0 ho3
    have hSt3 := hSt.o ho3
    conv => whnf
    refine example_does.mono ?_
    rintro v w4 ⟨rfl, ho4⟩
    have hw4 := hw3.t0 ho4
    conv => whnf
    refine (new_does exC_ok).mono ?_
    rintro v w5 ⟨ho5, ⟨hm', -⟩ | ⟨-, T2, rfl, hT2, hSt2⟩⟩
    · rw [exm] at hm'
      cases hm'
    have hw5 := hw4.t0 ho5
    conv => whnf
    refine example_does.mono ?_
    rintro v w6 ⟨rfl, ho6⟩
    have hw6 := hw5.t0 ho6
    have hSt26 := hSt2.o ho6
    conv => whnf
    refine (rnew_does exC_ok).mono ?_
    rintro v w7 ⟨ho7, ⟨hm', -⟩ | ⟨-, U2, rfl, hU2, hSr2⟩⟩
    · rw [exm] at hm'
      cases hm'
    have hw7 := hw6.t0 ho7
    have h37 : Only [] w3 w7 := ((ho4.t0 ho5).t0 ho6).t0 ho7
    have hSt27 := hSt26.o ho7
    have lt1 := hSt.lt T (by simp)
    have lt2 := hSr.lt U (by simp)
    have lt3 := hSt26.lt T2 (by simp)
    have z1 := hw1.size
    have z2 := hw2.size
    have z3 := hw3.size
    have z4 := hw4.size
    have z5 := hw5.size
    have z6 := hw6.size
    have z34 := ho4.size
    have z56 := ho6.size
    have hlt5 := hSt2.lt T2 (by simp)
    have hP1 : Pair w7 T (newS c) [T] U [U] := ⟨hSt3.o h37, hSr.o h37, fun k hk hm => by
      obtain rfl : k = T := by simpa using hk
      obtain rfl : k = U := by simpa using hm
      omega, inv_new okc hm⟩
    have hP2 : Pair w7 T2 (newS exC) [T2] U2 [U2] := ⟨hSt27, hSr2, fun k hk hm => by
      obtain rfl : k = T2 := by simpa using hk
      obtain rfl : k = U2 := by simpa using hm
      omega, inv_new exC_ok exm⟩
    have hge1 : ∀ k ∈ [T] ++ [U], W.heap.size ≤ k := fun k hk => by
      simp at hk
      rcases hk with rfl | rfl <;> omega
    have hge2 : ∀ k ∈ [T2] ++ [U2], W.heap.size ≤ k := fun k hk => by
      simp at hk
      rcases hk with rfl | rfl <;> omega
    have hd12 : ∀ k ∈ [T] ++ [U], k ∉ [T2] ++ [U2] := fun k hk hm => by
      simp at hk hm
      rcases hk with rfl | rfl <;> rcases hm with rfl | rfl <;> omega
    conv => whnf
    refine VLoop.inv (α := Nat × NatS × List Nat × List Nat × NatS × List Nat × List Nat) [(4, 5), (12, 15), (53, 86)] (fun | (i, s1, F1, R1, s2, F2, R2) => [(12, .int .i64 (i : Nat))])
      (fun | (i, s1, F1, R1, s2, F2, R2) => fun w' => i ≤ n ∧ Pair w' T s1 F1 U R1 ∧ Pair w' T2 s2 F2 U2 R2 ∧ (∀ k ∈ F1 ++ R1, k ∉ F2 ++ R2) ∧ (∀ k ∈ F1 ++ R1, W.heap.size ≤ k) ∧ (∀ k ∈ F2 ++ R2, W.heap.size ≤ k) ∧ Only [] W w') (fun | (i, s1, F1, R1, s2, F2, R2) => n - i) (0, newS c, [T], [U], newS exC, [T2], [U2]) (by kernel_rfl) ⟨rfl, trivial⟩ ⟨Nat.zero_le _, hP1, hP2, hd12, hge1, hge2, hw7⟩ ?_
    rintro ⟨i, s1, F1, R1, s2, F2, R2⟩ wr j ⟨hi, hQ1, hQ2, hd, hg1, hg2, how⟩
    have ei : IntKind.i64.wrap ((i : Int) + 1) = ((i + 1 : Nat) : Int) := by rw [wi64]; omega
    conv => whnf
    refine VIf.dec (fun ht => ?_) (fun ht => ?_)
    rotate_left
    · conv => whnf
      exact ⟨rfl, how⟩
    have ht : (i : Int) < (n : Int) := ht
    have hil : i < z.length := by omega
    obtain ⟨b, off, rfl, -⟩ := hz.some_ (by omega)
    conv => whnf
    refine VJoin.go (by kernel_rfl) ?_
    conv => whnf
    refine ⟨_, _, rfl, i, off + i * 3, rfl, by omega, rfl, ?_⟩
    conv => whnf
    refine ⟨_, (hz.o how).elem encOp30_len hil (by kernel_rfl) (by kernel_rfl), ?_⟩
    conv => whnf
    refine (step hQ1 how hg1 (List.getElem_mem hil)).mono ?_
    rintro v w8 ⟨rfl, s1', F1', R1', hQ1', hoF1, how8, hF1'⟩
    have l2 : ∀ k ∈ F2 ++ R2, k < wr.heap.size := fun k hk => by
      rcases List.mem_append.1 hk with h | h
      · exact hQ2.st.lt k h
      · exact hQ2.rf.lt k h
    have hQ2' : Pair w8 T2 s2 F2 U2 R2 := hQ2.only hoF1 (fun k hk hm => hd k hm (List.mem_append_left _ hk)) (fun k hk hm => hd k hm (List.mem_append_right _ hk))
    have hd' : ∀ k ∈ F1' ++ R1', k ∉ F2 ++ R2 := fun k hk hm => by
      rcases hF1' k hk with h | h
      · exact hd k h hm
      · have := l2 k hm; omega
    have hg1' : ∀ k ∈ F1' ++ R1', W.heap.size ≤ k := fun k hk => by
      have := how.size
      rcases hF1' k hk with h | h
      · exact hg1 k h
      · omega
    have l1 : ∀ k ∈ F1' ++ R1', k < w8.heap.size := fun k hk => by
      rcases List.mem_append.1 hk with h | h
      · exact hQ1'.st.lt k h
      · exact hQ1'.rf.lt k h
    conv => whnf
    refine VIf.eq (fun _ => ?_) (fun _ => ?_)
    · conv => whnf
      refine ⟨_, _, rfl, i, off + i * 3, rfl, by omega, rfl, ?_⟩
      conv => whnf
      refine ⟨_, (hz.o how8).elem encOp30_len hil (by kernel_rfl) (by kernel_rfl), ?_⟩
      conv => whnf
      refine (step hQ2' how8 hg2 (List.getElem_mem hil)).mono ?_
      rintro v w9 ⟨rfl, s2', F2', R2', hQ2'', hoF2, how9, hF2'⟩
      have hQ1'' : Pair w9 T s1' F1' U R1' := hQ1'.only hoF2 (fun k hk hm => hd' k (List.mem_append_left _ hk) hm) (fun k hk hm => hd' k (List.mem_append_right _ hk) hm)
      conv => whnf
      refine ⟨(i + 1, s1', F1', R1', s2', F2', R2'), ⟨congrArg (Value.int .i64) ei, trivial⟩, ⟨by omega, hQ1'', hQ2'', fun k hk hm => ?_, hg1', fun k hk => ?_, how9⟩, by show n - (i + 1) < n - i; omega⟩
      · rcases hF2' k hm with h | h
        · exact hd' k hk h
        · have := l1 k hk; omega
      · have := how8.size
        rcases hF2' k hk with h | h
        · exact hg2 k h
        · omega
    · conv => whnf
      exact ⟨(i + 1, s1', F1', R1', s2, F2, R2), ⟨congrArg (Value.int .i64) ei, trivial⟩, ⟨by omega, hQ1', hQ2', hd', hg1', hg2, how8⟩, by show n - (i + 1) < n - i; omega⟩
end Go.Proofs.YtofomopdaponbaaGreatDoor
