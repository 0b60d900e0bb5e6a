/-
  A quote is written back: what a translation changed of a packet, the translation of the error about it changes back. Plain: no program in sight.
-/
import Derived.Test.YtofomopdaponbaaGreatDoorZq
import Derived.Test.YtofomopdaponbaaGreatDoorYNme
namespace Go.Proofs.YtofomopdaponbaaGreatDoor
open Go.RowKit
set_option linter.unusedVariables false
set_option linter.unusedSimpArgs false

/-- Lists of even length, word by word. -/
theorem words_ext {l l' : List UInt8} (hl : l'.length = l.length) (h2 : l.length % 2 = 0) (h : ∀ i, 2 * i + 1 < l.length → wordL l' (2 * i) = wordL l (2 * i)) : l' = l := by
  refine getD_ext hl fun j hj => ?_
  have hw := h (j / 2) (by omega)
  rcases Nat.mod_two_eq_zero_or_one j with hm | hm
  · have e : j = 2 * (j / 2) := by omega
    rw [e, ← hiB_word, ← hiB_word, hw]
  · have e : j = 2 * (j / 2) + 1 := by omega
    rw [e, ← loB_word, ← loB_word, hw]
/-- The two words of an address. -/
def aC (l : List UInt8) (k : Nat) (a : Ad) : List (Int × Int) := [(wordL l k, wordL a.2 0), (wordL l (k + 2), wordL a.2 2)]
theorem addrAtC_eq {l : List UInt8} {k : Nat} {a : Ad} : addrAtC l k a = aC l k a := by
  unfold addrAtC aC
  rw [wordL_setW_ne (by omega)]
theorem aC_ok (l : List UInt8) (k : Nat) (a : Ad) : ∀ c ∈ aC l k a, okCh c := by
  intro c hc
  have q0 := wordL_bd l k
  have q1 := wordL_bd a.2 0
  have q2 := wordL_bd l (k + 2)
  have q3 := wordL_bd a.2 2
  simp only [aC, List.mem_cons, List.not_mem_nil, or_false] at hc
  rcases hc with rfl | rfl
  · exact ⟨q0.1, q0.2, q1.1, q1.2⟩
  · exact ⟨q2.1, q2.2, q3.1, q3.2⟩
theorem ok_snoc {z : List (Int × Int)} {c : Int × Int} (h : ∀ c ∈ z, okCh c) (hc : okCh c) : ∀ x ∈ z ++ [c], okCh x := fun x hx => by
  rcases List.mem_append.1 hx with h1 | h1
  · exact h x h1
  · obtain rfl := List.mem_singleton.1 h1
    exact hc
theorem udpS_b3 {s : Int} {z : List (Int × Int)} (h : ∀ c ∈ z, okCh c) (hs : 0 ≤ s ∧ s ≤ 65535) : 1 ≤ udpS s z ∧ udpS s z ≤ 65535 ∧ (udpS s z - (s + lost z)) % 65535 = 0 := by
  have h1 := patchL_bd h hs
  have h2 := patchL_mod h hs
  unfold udpS
  split <;> omega
/-- The address at a place. -/
theorem addrAt_w {l : List UInt8} {k : Nat} {a : Ad} (hl : k + 3 < l.length) :
    (addrAtL l k a).length = l.length ∧ wordL (addrAtL l k a) k = wordL a.2 0 ∧ wordL (addrAtL l k a) (k + 2) = wordL a.2 2 ∧ ∀ j, j + 1 < k ∨ k + 3 < j → wordL (addrAtL l k a) j = wordL l j := by
  have q1 := wordL_bd a.2 0
  have q3 := wordL_bd a.2 2
  unfold addrAtL
  refine ⟨by simp [setW_len], ?_, ?_, fun j hj => ?_⟩
  · rw [wordL_setW_ne (by omega), wordL_setW (by omega) q1.1 q1.2]
  · exact wordL_setW (by rw [setW_len]; omega) q3.1 q3.2
  · rw [wordL_setW_ne (by omega), wordL_setW_ne (by omega)]
def udpW (l : List UInt8) (k q : Nat) (a : Ad) (p : Int) (j : Nat) : Int := if wordL l j = 0 then 0 else udpS (wordL l j) (aC l k a ++ [(wordL l q, p)])
theorem udpL_w {l : List UInt8} {k : Nat} {z : List (Int × Int)} (hl : k + 1 < l.length) (hz : ∀ c ∈ z, okCh c) :
    (udpL l k z).length = l.length ∧ wordL (udpL l k z) k = (if wordL l k = 0 then 0 else udpS (wordL l k) z) ∧ ∀ j, j + 1 < k ∨ k + 1 < j → wordL (udpL l k z) j = wordL l j := by
  have hu := udpS_b3 hz (wordL_bd l k)
  unfold udpL
  split
  · rename_i h
    exact ⟨rfl, h, fun _ _ => rfl⟩
  · exact ⟨setW_len _ _ _, wordL_setW hl (by omega) hu.2.1, fun j hj => wordL_setW_ne hj⟩
/-- A datagram that went through, word by word. -/
theorem end_w {l : List UInt8} {k : Nat} {a : Ad} {p : Int} (hk : k = 12 ∨ k = 16) (hl : 28 ≤ l.length) (hp : 0 ≤ p ∧ p ≤ 65535) :
    (endL l k a p 20).length = l.length ∧ wordL (endL l k a p 20) 10 = patchL (wordL l 10) (aC l k a) ∧ wordL (endL l k a p 20) k = wordL a.2 0 ∧ wordL (endL l k a p 20) (k + 2) = wordL a.2 2 ∧
      wordL (endL l k a p 20) (20 + (k - 12) / 2) = p ∧ wordL (endL l k a p 20) 26 = udpW l k (20 + (k - 12) / 2) a p 26 ∧
      ∀ i, 2 * i ≠ 10 → 2 * i ≠ k → 2 * i ≠ k + 2 → 2 * i ≠ 20 + (k - 12) / 2 → 2 * i ≠ 26 → wordL (endL l k a p 20) (2 * i) = wordL l (2 * i) := by
  have hpp : p16 p = p := by unfold p16; omega
  obtain ⟨a1, a2, a3, a4⟩ := addrAt_w (l := l) (k := k) (a := a) (by omega)
  have hb := patchL_bd (aC_ok l k a) (wordL_bd l 10)
  have w10 : wordL (addrAtL l k a) 10 = wordL l 10 := a4 _ (by omega)
  have eA : addressL l k a = setW (addrAtL l k a) 10 (patchL (wordL l 10) (aC l k a)) := by
    unfold addressL
    rw [w10, addrAtC_eq]
  have b1 : (addressL l k a).length = l.length := by rw [eA, setW_len, a1]
  have b2 : wordL (addressL l k a) 10 = patchL (wordL l 10) (aC l k a) := by rw [eA]; exact wordL_setW (by omega) hb.1 hb.2
  have b3 : ∀ j, j + 1 < 10 ∨ 11 < j → wordL (addressL l k a) j = wordL (addrAtL l k a) j := fun j hj => by rw [eA]; exact wordL_setW_ne (by omega)
  have wq : wordL (addressL l k a) (20 + (k - 12) / 2) = wordL l (20 + (k - 12) / 2) := (b3 _ (by omega)).trans (a4 _ (by omega))
  have c1 : (end3L l k a p 20).length = l.length := by unfold end3L; rw [setW_len, b1]
  have c2 : wordL (end3L l k a p 20) (20 + (k - 12) / 2) = p := by unfold end3L; rw [hpp]; exact wordL_setW (by omega) hp.1 hp.2
  have c3 : ∀ j, j + 1 < 20 + (k - 12) / 2 ∨ 20 + (k - 12) / 2 + 1 < j → wordL (end3L l k a p 20) j = wordL (addressL l k a) j := fun j hj => by unfold end3L; exact wordL_setW_ne hj
  have hC : endC l k a p 20 = aC l k a ++ [(wordL l (20 + (k - 12) / 2), p)] := by
    unfold endC
    rw [addrAtC_eq, wq, hpp]
  have q4 := wordL_bd l (20 + (k - 12) / 2)
  have okC : ∀ c ∈ endC l k a p 20, okCh c := by
    rw [hC]
    exact ok_snoc (aC_ok l k a) ⟨q4.1, q4.2, hp.1, hp.2⟩
  obtain ⟨d1, d2, d3⟩ := udpL_w (l := end3L l k a p 20) (k := 26) (z := endC l k a p 20) (by omega) okC
  have w26 : wordL (end3L l k a p 20) 26 = wordL l 26 := ((c3 _ (by omega)).trans (b3 _ (by omega))).trans (a4 _ (by omega))
  have hd : endL l k a p 20 = udpL (end3L l k a p 20) 26 (endC l k a p 20) := rfl
  rw [hd]
  refine ⟨d1.trans c1, ?_, ?_, ?_, ?_, ?_, fun i h1 h2 h3 h4 h5 => ?_⟩
  · rw [d3 _ (by omega), c3 _ (by omega), b2]
  · rw [d3 _ (by omega), c3 _ (by omega), b3 _ (by omega), a2]
  · rw [d3 _ (by omega), c3 _ (by omega), b3 _ (by omega), a3]
  · rw [d3 _ (by omega), c2]
  · rw [d2, w26, hC]
    rfl
  · rw [d3 _ (by omega), c3 _ (by omega), b3 _ (by omega), a4 _ (by omega)]
theorem wsum_at {l : List UInt8} {n j : Nat} {v : Int} (hn : n = 20 + 2 * j) (hl : n + 1 < l.length) (h0 : 0 ≤ v) (h1 : v ≤ 65535) : wsum ((setW l n v).drop 20) = wsum (l.drop 20) - wordL l n + v := by
  subst hn
  rw [setW_drop, wsum_setW j _ v (by rw [List.length_drop]; omega) h0 h1, wordL_drop]
/-- The words that a quote's rewriting changes. -/
def qS (L : List UInt8) (k : Nat) (a : Ad) : Int := patchL (wordL L 38) (aC L (28 + k) a)
def qCC (L : List UInt8) (k : Nat) (a : Ad) (p : Int) : List (Int × Int) :=
  [(wordL L 38, qS L k a)] ++ aC L (28 + k) a ++ [(wordL L (48 + (k - 12) / 2), p)] ++ (if wordL L 54 = 0 then [] else [(wordL L 54, udpW L (28 + k) (48 + (k - 12) / 2) a p 54)])
theorem quote_w {L : List UInt8} {k : Nat} {a : Ad} {p : Int} (hk : k = 12 ∨ k = 16) (hl : 56 ≤ L.length) (h5 : (L.getD 28 0).toNat % 16 = 5) (hp : 0 ≤ p ∧ p ≤ 65535) :
    (quoteL L k a p 20).length = L.length ∧ wordL (quoteL L k a p 20) 38 = qS L k a ∧ wordL (quoteL L k a p 20) (28 + k) = wordL a.2 0 ∧ wordL (quoteL L k a p 20) (28 + k + 2) = wordL a.2 2 ∧
      wordL (quoteL L k a p 20) (48 + (k - 12) / 2) = p ∧ wordL (quoteL L k a p 20) 54 = udpW L (28 + k) (48 + (k - 12) / 2) a p 54 ∧ wordL (quoteL L k a p 20) 22 = patchL (wordL L 22) (qCC L k a p) ∧
      (∀ c ∈ qCC L k a p, okCh c) ∧ wsum (setW ((quoteL L k a p 20).drop 20) 2 0) = wsum (setW (L.drop 20) 2 0) - lost (qCC L k a p) ∧
      ∀ i, 2 * i ≠ 38 → 2 * i ≠ 28 + k → 2 * i ≠ 28 + k + 2 → 2 * i ≠ 48 + (k - 12) / 2 → 2 * i ≠ 54 → 2 * i ≠ 22 → wordL (quoteL L k a p 20) (2 * i) = wordL L (2 * i) := by
  have hpp : p16 p = p := by unfold p16; omega
  have hu : udpAt L 20 = 48 := by
    show 20 + 8 + 4 * ((L.getD (20 + 8) 0).toNat % 16) = 48
    rw [show (20 + 8 : Nat) = 28 from rfl, h5]
  obtain ⟨a1, a2, a3, a4⟩ := addrAt_w (l := L) (k := 28 + k) (a := a) (by omega)
  have hok := aC_ok L (28 + k) a
  have hS := patchL_bd hok (wordL_bd L 38)
  have e1 : q1L L k a 20 = addrAtL L (28 + k) a := rfl
  have eC : q1C L k a 20 = aC L (28 + k) a := addrAtC_eq
  have w38 : wordL (q1L L k a 20) (20 + 8 + 10) = wordL L 38 := a4 _ (by omega)
  have eS : q2S L k a 20 = qS L k a := by unfold q2S qS; rw [w38, eC]
  have b0 : q2L L k a 20 = setW (addrAtL L (28 + k) a) 38 (qS L k a) := by unfold q2L; rw [eS]; rfl
  have b1 : (q2L L k a 20).length = L.length := by rw [b0, setW_len, a1]
  have b2 : wordL (q2L L k a 20) 38 = qS L k a := by rw [b0]; exact wordL_setW (by omega) hS.1 hS.2
  have b3 : ∀ j, j + 1 < 38 ∨ 39 < j → wordL (q2L L k a 20) j = wordL (addrAtL L (28 + k) a) j := fun j hj => by rw [b0]; exact wordL_setW_ne (by omega)
  have wq : wordL (q2L L k a 20) (48 + (k - 12) / 2) = wordL L (48 + (k - 12) / 2) := (b3 _ (by omega)).trans (a4 _ (by omega))
  have c0 : q3L L k a p 20 = setW (q2L L k a 20) (48 + (k - 12) / 2) p := by unfold q3L; rw [hu, hpp]
  have c1 : (q3L L k a p 20).length = L.length := by rw [c0, setW_len, b1]
  have c2 : wordL (q3L L k a p 20) (48 + (k - 12) / 2) = p := by rw [c0]; exact wordL_setW (by omega) hp.1 hp.2
  have c3 : ∀ j, j + 1 < 48 + (k - 12) / 2 ∨ 48 + (k - 12) / 2 + 1 < j → wordL (q3L L k a p 20) j = wordL (q2L L k a 20) j := fun j hj => by rw [c0]; exact wordL_setW_ne hj
  have c4 : q3C L k a p 20 = (wordL L (48 + (k - 12) / 2), p) := by unfold q3C; rw [hu, hpp, wq]
  have hU : qU L k a p 20 = aC L (28 + k) a ++ [(wordL L (48 + (k - 12) / 2), p)] := by unfold qU; rw [eC, c4]
  have q4 := wordL_bd L (48 + (k - 12) / 2)
  have okU : ∀ c ∈ qU L k a p 20, okCh c := by
    rw [hU]
    exact ok_snoc hok ⟨q4.1, q4.2, hp.1, hp.2⟩
  have w54 : wordL (q3L L k a p 20) 54 = wordL L 54 := ((c3 _ (by omega)).trans (b3 _ (by omega))).trans (a4 _ (by omega))
  have hhas : qHas L 20 = true := by unfold qHas; rw [hu]; exact decide_eq_true (by omega)
  have hq4 : q4L L k a p 20 = udpL (q3L L k a p 20) 54 (qU L k a p 20) := by
    unfold q4L
    rw [if_pos hhas, hu]
  obtain ⟨d1, d2, d3⟩ := udpL_w (l := q3L L k a p 20) (k := 54) (z := qU L k a p 20) (by omega) okU
  have hW : wordL (udpL (q3L L k a p 20) 54 (qU L k a p 20)) 54 = udpW L (28 + k) (48 + (k - 12) / 2) a p 54 := by rw [d2, w54, hU]; rfl
  have hqC : q4C L k a p 20 = qCC L k a p := by
    have hAll : qAll L k a p 20 = [(wordL L 38, qS L k a)] ++ aC L (28 + k) a ++ [(wordL L (48 + (k - 12) / 2), p)] := by
      unfold qAll
      rw [w38, eS, eC, c4]
    unfold q4C qCC udpB udpC
    rw [hu, hAll, hhas]
    by_cases h0 : wordL L 54 = 0
    · rw [if_neg (fun h => (of_decide_eq_true h.2) (w54.trans h0)), if_pos h0, List.append_nil]
    · rw [if_pos ⟨rfl, decide_eq_true (fun h => h0 (w54.symm.trans h))⟩, if_neg h0, if_neg (fun h => h0 (w54.symm.trans h)), w54, hU]
      unfold udpW
      rw [if_neg h0]
  have hUb := udpS_b3 okU (wordL_bd L 54)
  rw [hU] at hUb
  have w54b := wordL_bd L 54
  have w38b := wordL_bd L 38
  have okCC : ∀ c ∈ qCC L k a p, okCh c := by
    intro c hc
    unfold qCC at hc
    rcases List.mem_append.1 hc with hc | hc
    · rcases List.mem_append.1 hc with hc | hc
      · rcases List.mem_append.1 hc with hc | hc
        · obtain rfl := List.mem_singleton.1 hc
          exact ⟨w38b.1, w38b.2, hS.1, hS.2⟩
        · exact hok c hc
      · obtain rfl := List.mem_singleton.1 hc
        exact ⟨q4.1, q4.2, hp.1, hp.2⟩
    · split at hc
      · cases hc
      · rename_i h0
        obtain rfl := List.mem_singleton.1 hc
        refine ⟨w54b.1, w54b.2, ?_, ?_⟩ <;> (dsimp only; unfold udpW; rw [if_neg h0]; omega)
  have w22 : wordL (udpL (q3L L k a p 20) 54 (qU L k a p 20)) 22 = wordL L 22 := by rw [d3 _ (by omega), c3 _ (by omega), b3 _ (by omega), a4 _ (by omega)]
  have hP := patchL_bd okCC (wordL_bd L 22)
  have hd : quoteL L k a p 20 = setW (udpL (q3L L k a p 20) 54 (qU L k a p 20)) 22 (patchL (wordL L 22) (qCC L k a p)) := by
    unfold quoteL
    rw [hq4, hqC, show (20 + 2 : Nat) = 22 from rfl, w22]
  have f1 : ∀ j, j + 1 < 22 ∨ 23 < j → wordL (quoteL L k a p 20) j = wordL (udpL (q3L L k a p 20) 54 (qU L k a p 20)) j := fun j hj => by rw [hd]; exact wordL_setW_ne (by omega)
  refine ⟨by rw [hd, setW_len, d1, c1], ?_, ?_, ?_, ?_, ?_, ?_, okCC, ?_, fun i h1 h2 h3 h4 h5 h6 => ?_⟩
  · rw [f1 _ (by omega), d3 _ (by omega), c3 _ (by omega), b2]
  · rw [f1 _ (by omega), d3 _ (by omega), c3 _ (by omega), b3 _ (by omega), a2]
  · rw [f1 _ (by omega), d3 _ (by omega), c3 _ (by omega), b3 _ (by omega), a3]
  · rw [f1 _ (by omega), d3 _ (by omega), c2]
  · rw [f1 _ (by omega), hW]
  · rw [hd]
    exact wordL_setW (by rw [d1, c1]; omega) hP.1 hP.2
  · have q1b := wordL_bd a.2 0
    have q3b := wordL_bd a.2 2
    have hX : wsum ((udpL (q3L L k a p 20) 54 (qU L k a p 20)).drop 20) = wsum (L.drop 20) - lost (qCC L k a p) := by
      have s1 : wsum ((addrAtL L (28 + k) a).drop 20) = wsum (L.drop 20) - wordL L (28 + k) + wordL a.2 0 - wordL L (28 + k + 2) + wordL a.2 2 := by
        unfold addrAtL
        rw [wsum_at (j := (8 + k) / 2 + 1) (by omega) (by rw [setW_len]; omega) q3b.1 q3b.2, wsum_at (j := (8 + k) / 2) (by omega) (by omega) q1b.1 q1b.2, wordL_setW_ne (by omega)]
      have s2 : wsum ((q2L L k a 20).drop 20) = wsum ((addrAtL L (28 + k) a).drop 20) - wordL L 38 + qS L k a := by
        rw [b0, wsum_at (n := 38) (v := qS L k a) (j := 9) (by decide) (by omega) hS.1 hS.2, a4 _ (by omega)]
      have s3 : wsum ((q3L L k a p 20).drop 20) = wsum ((q2L L k a 20).drop 20) - wordL L (48 + (k - 12) / 2) + p := by
        rw [c0, wsum_at (j := 14 + (k - 12) / 4) (by omega) (by omega) hp.1 hp.2, wq]
      have hlost : lost (qCC L k a p) = wordL L 38 - qS L k a + (wordL L (28 + k) - wordL a.2 0) + (wordL L (28 + k + 2) - wordL a.2 2) + (wordL L (48 + (k - 12) / 2) - p) + (if wordL L 54 = 0 then 0 else wordL L 54 - udpW L (28 + k) (48 + (k - 12) / 2) a p 54) := by
        unfold qCC lost aC
        split <;> simp <;> omega
      rw [hlost]
      unfold udpL
      rw [w54]
      by_cases h0 : wordL L 54 = 0
      · rw [if_pos h0, if_pos h0, s3, s2, s1]
        omega
      · rw [if_neg h0, if_neg h0, hU, wsum_at (n := 54) (j := 17) (by decide) (by omega) (by omega) hUb.2.1, w54, s3, s2, s1]
        unfold udpW
        rw [if_neg h0]
        omega
    have hlX : (udpL (q3L L k a p 20) 54 (qU L k a p 20)).length = L.length := d1.trans c1
    rw [hd, show (22 : Nat) = 20 + 2 from rfl, setW_drop, setW_setW, show (2 : Nat) = 2 * 1 from rfl, wsum_setW 1 _ 0 (by rw [List.length_drop]; omega) (Int.le_refl _) (by decide), wsum_setW 1 _ 0 (by rw [List.length_drop]; omega) (Int.le_refl _) (by decide), wordL_drop, wordL_drop, hX]
    rw [show (20 + 2 * 1 : Nat) = 22 from rfl, w22]
    omega
  · rw [f1 _ (by omega), d3 _ (by omega), c3 _ (by omega), b3 _ (by omega), a4 _ (by omega)]
end Go.Proofs.YtofomopdaponbaaGreatDoor
/-
  A quote is written back, to the byte. Plain: no program in sight.
-/
namespace Go.Proofs.YtofomopdaponbaaGreatDoor
open Go.RowKit
set_option linter.unusedVariables false
set_option linter.unusedSimpArgs false

theorem lost_snoc (z : List (Int × Int)) (c : Int × Int) : lost (z ++ [c]) = lost z + (c.1 - c.2) := by simp [lost]
/-- There and back: a head's checksum. -/
theorem rt_ip {s u v u' v' : Int} (hs : 0 ≤ s ∧ s < 65535) (hu : 0 ≤ u ∧ u ≤ 65535) (hv : 0 ≤ v ∧ v ≤ 65535) (hu' : 0 ≤ u' ∧ u' ≤ 65535) (hv' : 0 ≤ v' ∧ v' ≤ 65535) : patchL (patchL s [(u, v), (u', v')]) [(v, u), (v', u')] = s := by
  have o1 : ∀ c ∈ [(u, v), (u', v')], okCh c := fun c hc => by
    simp only [List.mem_cons, List.not_mem_nil, or_false] at hc
    rcases hc with rfl | rfl
    · exact ⟨hu.1, hu.2, hv.1, hv.2⟩
    · exact ⟨hu'.1, hu'.2, hv'.1, hv'.2⟩
  have o2 : ∀ c ∈ [(v, u), (v', u')], okCh c := fun c hc => by
    simp only [List.mem_cons, List.not_mem_nil, or_false] at hc
    rcases hc with rfl | rfl
    · exact ⟨hv.1, hv.2, hu.1, hu.2⟩
    · exact ⟨hv'.1, hv'.2, hu'.1, hu'.2⟩
  have b1 := patchL_bd o1 (s := s) ⟨hs.1, by omega⟩
  have l1 := patchL_lt o1 hs
  have m1 := patchL_mod o1 (s := s) ⟨hs.1, by omega⟩
  have b2 := patchL_bd o2 b1
  have l2 := patchL_lt o2 ⟨b1.1, l1⟩
  have m2 := patchL_mod o2 b1
  have e1 : lost [(u, v), (u', v')] = u - v + (u' - v') := by simp [lost]
  have e2 : lost [(v, u), (v', u')] = v - u + (v' - u') := by simp [lost]
  rw [e1] at m1
  rw [e2] at m2
  omega
/-- There and back: a datagram's checksum. -/
theorem rt_udp {s u v u' v' p q : Int} (hs : 1 ≤ s ∧ s ≤ 65535) (hu : 0 ≤ u ∧ u ≤ 65535) (hv : 0 ≤ v ∧ v ≤ 65535) (hu' : 0 ≤ u' ∧ u' ≤ 65535) (hv' : 0 ≤ v' ∧ v' ≤ 65535) (hp : 0 ≤ p ∧ p ≤ 65535) (hq : 0 ≤ q ∧ q ≤ 65535) :
    udpS (udpS s ([(u, v), (u', v')] ++ [(p, q)])) ([(v, u), (v', u')] ++ [(q, p)]) = s := by
  have o1 : ∀ c ∈ [(u, v), (u', v')] ++ [(p, q)], okCh c := fun c hc => by
    simp only [List.cons_append, List.nil_append, List.mem_cons, List.not_mem_nil, or_false] at hc
    rcases hc with rfl | rfl | rfl
    · exact ⟨hu.1, hu.2, hv.1, hv.2⟩
    · exact ⟨hu'.1, hu'.2, hv'.1, hv'.2⟩
    · exact ⟨hp.1, hp.2, hq.1, hq.2⟩
  have o2 : ∀ c ∈ [(v, u), (v', u')] ++ [(q, p)], okCh c := fun c hc => by
    simp only [List.cons_append, List.nil_append, List.mem_cons, List.not_mem_nil, or_false] at hc
    rcases hc with rfl | rfl | rfl
    · exact ⟨hv.1, hv.2, hu.1, hu.2⟩
    · exact ⟨hv'.1, hv'.2, hu'.1, hu'.2⟩
    · exact ⟨hq.1, hq.2, hp.1, hp.2⟩
  have m1 := udpS_b3 o1 (s := s) ⟨by omega, hs.2⟩
  have m2 := udpS_b3 o2 (s := udpS s ([(u, v), (u', v')] ++ [(p, q)])) ⟨by omega, m1.2.1⟩
  have e1 : lost ([(u, v), (u', v')] ++ [(p, q)]) = u - v + (u' - v') + (p - q) := by rw [lost_snoc]; simp [lost]
  have e2 : lost ([(v, u), (v', u')] ++ [(q, p)]) = v - u + (v' - u') + (q - p) := by rw [lost_snoc]; simp [lost]
  rw [e1] at m1
  rw [e2] at m2
  omega
theorem beL_4 {v : Int} (h0 : 0 ≤ v) (h1 : v ≤ 4294967295) : beL (beN v 4) = v := by
  have hb : ∀ k, ((byN v k).toNat : Int) = v / 2 ^ (8 * k) % 256 := fun k => by
    unfold byN
    have h2 : 0 ≤ v / 2 ^ (8 * k) % 256 := Int.emod_nonneg _ (by decide)
    have h3 : v / 2 ^ (8 * k) % 256 < 256 := Int.emod_lt_of_pos _ (by decide)
    rw [UInt8.toNat_ofNat']
    omega
  have b3 := hb 3
  have b2 := hb 2
  have b1 := hb 1
  have b0 := hb 0
  simp only [Nat.reduceMul, Int.reducePow, Nat.mul_zero, Int.pow_zero, Int.ediv_one] at b3 b2 b1 b0
  simp [beN, beL]
  omega
theorem clear2_eq (l : List UInt8) : clear2 l = setW l 2 0 := rfl
theorem bytes_of {l l' : List UInt8} {j : Nat} (h : wordL l' j = wordL l j) : l'.getD j 0 = l.getD j 0 ∧ l'.getD (j + 1) 0 = l.getD (j + 1) 0 :=
  ⟨by rw [← hiB_word, ← hiB_word, h], by rw [← loB_word, ← loB_word, h]⟩
/-- What a message's packet is. -/
structure Carried (S T : Ad) (m : Mg) (b : List UInt8) : Prop where
  e0 : parseE b = 0
  p : parseP b = icPk S T (icL S T m)
  head : headL b = 20
  len : b.length = 28 + m.body.length
  d : b.drop 20 = icL S T m
theorem carried_of {S T : Ad} {m : Mg} (okS : okAd S) (okT : okAd T) (fS : fourA S = true) (fT : fourA T = true) (hl : m.body.length ≤ 65507) : Carried S T m (carriedL S T m) := by
  suffices h : ∀ D : List UInt8, D.length = 8 + m.body.length → parseE (packL (icPk S T D)) = 0 ∧ parseP (packL (icPk S T D)) = icPk S T D ∧ headL (packL (icPk S T D)) = 20 ∧ (packL (icPk S T D)).length = 28 + m.body.length ∧ (packL (icPk S T D)).drop 20 = D by
    obtain ⟨h1, h2, h3, h4, h5⟩ := h _ (icL_len S T m)
    exact ⟨h1, h2, h3, h4, h5⟩
  intro D hD
  have hl2 : D.length ≤ 65515 := by omega
  have ok : okPk (icPk S T D) := ⟨okS, okT, ⟨show (-9223372036854775808 : Int) ≤ 0 by decide, show (0 : Int) ≤ 9223372036854775807 by decide⟩⟩
  have hr := icPk_right fS fT hl2
  have hi : 0 ≤ (icPk S T D).id := Int.le_refl 0
  obtain ⟨h1, h2, h3, h4⟩ := pack_any ok hr hi
  have z1 : (icPk S T D).opts.length = 0 := rfl
  have z2 : (icPk S T D).data = D := rfl
  have e3 : headL (packL (icPk S T D)) = 20 := by rw [h3, z1]
  have hP := parseP_of h1
  rw [e3] at hP
  have hd : (readP (packL (icPk S T D)) 20).data = (icPk S T D).data := congrArg Pk.data (hP.symm.trans h2)
  rw [show ∀ (l : List UInt8) (n : Nat), (readP l n).data = l.drop n from fun _ _ => rfl, z2] at hd
  refine ⟨h1, h2, e3, ?_, hd⟩
  rw [h4, z1, z2, hD, ← Nat.add_assoc]
/-- The bytes of a message that was laid. -/
theorem icL_w {S T : Ad} {typ code rest : Int} {body : List UInt8} (ht : 0 ≤ typ ∧ typ ≤ 255) (hc : 0 ≤ code ∧ code ≤ 255) (hr : 0 ≤ rest ∧ rest ≤ 4294967295) :
    (icL S T ⟨4, typ, code, rest, body⟩).drop 8 = body ∧ (((icL S T ⟨4, typ, code, rest, body⟩).getD 0 0).toNat : Int) = typ ∧ (((icL S T ⟨4, typ, code, rest, body⟩).getD 1 0).toNat : Int) = code ∧
      beL (((icL S T ⟨4, typ, code, rest, body⟩).drop 4).take 4) = rest ∧ setW (icL S T ⟨4, typ, code, rest, body⟩) 2 0 = msg0 ⟨4, typ, code, rest, body⟩ ∧ wordL (icL S T ⟨4, typ, code, rest, body⟩) 2 = 65535 - icSum S T (msg0 ⟨4, typ, code, rest, body⟩) := by
  have hs := icSum_bd S T (msg0 ⟨4, typ, code, rest, body⟩)
  have hm : msg0 ⟨4, typ, code, rest, body⟩ = loB typ :: loB code :: 0 :: 0 :: (beN rest 4 ++ body) := by
    have z1 : hiB 0 = 0 := by decide
    have z2 : loB 0 = 0 := by decide
    show [loB typ] ++ [loB code] ++ [hiB 0, loB 0] ++ beN rest 4 ++ body = _
    rw [z1, z2]
    simp
  have e : icL S T ⟨4, typ, code, rest, body⟩ = loB typ :: loB code :: hiB (65535 - icSum S T (msg0 ⟨4, typ, code, rest, body⟩)) :: loB (65535 - icSum S T (msg0 ⟨4, typ, code, rest, body⟩)) :: (beN rest 4 ++ body) := by
    unfold icL
    generalize icSum S T (msg0 ⟨4, typ, code, rest, body⟩) = q
    rw [hm]
    rfl
  have hlen : (msg0 ⟨4, typ, code, rest, body⟩).length = 8 + body.length := msg0_len _
  refine ⟨?_, ?_, ?_, ?_, ?_, ?_⟩
  · rw [e]
    exact List.drop_left' (by rw [beN_len])
  · rw [e]
    exact u8_of ht.1 ht.2
  · rw [e]
    exact u8_of hc.1 hc.2
  · rw [e]
    show beL ((beN rest 4 ++ body).take 4) = rest
    rw [List.take_left' (by rw [beN_len])]
    exact beL_4 hr.1 hr.2
  · rw [icL, setW_setW, hm]
    rfl
  · exact wordL_setW (by omega) (by omega) (by omega)
end Go.Proofs.YtofomopdaponbaaGreatDoor
/-
  An error about a packet that went through a nat, on its way back through it: it tells of the packet as it was. Plain: no program in sight.
-/
namespace Go.Proofs.YtofomopdaponbaaGreatDoor
open Go.RowKit
set_option linter.unusedVariables false
set_option linter.unusedSimpArgs false

/-- What is asked of a packet that went through: from (a0, p0) to (a1, p1) at place k. -/
structure Thru (x : List UInt8) (k : Nat) (a0 a1 : Ad) (p0 p1 : Int) : Prop where
  hk : k = 12 ∨ k = 16
  e0 : parseE x = 0
  head : headL x = 20
  len : 28 ≤ x.length
  proto : (parseP x).proto = 17
  off : (parseP x).off = 0
  more : (parseP x).more = false
  w0 : wordL a0.2 0 = wordL x k
  w2 : wordL a0.2 2 = wordL x (k + 2)
  wp : wordL x (20 + (k - 12) / 2) = p0
  p1 : 0 ≤ p1 ∧ p1 ≤ 65535
/-- The quote of such a packet, written back. -/
theorem quote_bytes {x L : List UInt8} {k : Nat} {a0 a1 : Ad} {p0 p1 : Int} (h : Thru x k a0 a1 p0 p1) (hL : 56 ≤ L.length) (hw : ∀ i, i < 14 → wordL L (28 + 2 * i) = wordL (endL x k a1 p1 20) (2 * i)) (hl56 : L.length = 56) :
    (L.getD 28 0).toNat % 16 = 5 ∧ (quoteL L k a0 p0 20).drop 28 = x.take 28 := by
  have hk := h.hk
  have hf := facts_of h.e0
  have hp0 : 0 ≤ p0 ∧ p0 ≤ 65535 := by rw [← h.wp]; exact wordL_bd _ _
  obtain ⟨o1, o2, o3, o4, o5, o6, o7⟩ := end_w (l := x) (k := k) (a := a1) (p := p1) hk h.len h.p1
  generalize endL x k a1 p1 20 = o at *
  have h5 : (L.getD 28 0).toNat % 16 = 5 := by
    have h1 := (bytes_of (l := o) (l' := L.drop 28) (j := 0) (by rw [wordL_drop]; exact hw 0 (by decide))).1
    have h2 := (bytes_of (l := x) (l' := o) (j := 0) (o7 0 (by decide) (by omega) (by omega) (by omega) (by decide))).1
    rw [getD_drop] at h1
    have h1 : L.getD 28 0 = o.getD 0 0 := h1
    have h3 := h.head
    unfold headL at h3
    rw [h1, h2]
    omega
  refine ⟨h5, ?_⟩
  obtain ⟨q1, q2, q3, q4, q5, q6, q7, q8, q9, q10⟩ := quote_w (L := L) (k := k) (a := a0) (p := p0) hk hL h5 hp0
  generalize quoteL L k a0 p0 20 = R at *
  have hx28 : (x.take 28).length = 28 := by rw [List.length_take]; have := h.len; omega
  have s10 : wordL x 10 < 65535 := by
    have hs := hf.sum
    rw [h.head] at hs
    have ht20 : (x.take 20).length = 20 := by rw [List.length_take]; have := h.len; omega
    have h0 : 0 < ((x.take 20).getD 0 0).toNat := by
      rw [getD_take (by decide)]
      have := hf.v4
      omega
    have := ((checked_iff (by omega) h0).1 hs).1
    rwa [wordL_take (by decide)] at this
  have b10 := wordL_bd x 10
  have bk := wordL_bd x k
  have bk2 := wordL_bd x (k + 2)
  have c0 := wordL_bd a1.2 0
  have c2 := wordL_bd a1.2 2
  -- the words of the quote as it came
  have L38 : wordL L 38 = wordL o 10 := hw 5 (by decide)
  have Lk : wordL L (28 + k) = wordL o k := by rcases hk with rfl | rfl; exact hw 6 (by decide); exact hw 8 (by decide)
  have Lk2 : wordL L (28 + k + 2) = wordL o (k + 2) := by rcases hk with rfl | rfl; exact hw 7 (by decide); exact hw 9 (by decide)
  have Lq : wordL L (48 + (k - 12) / 2) = wordL o (20 + (k - 12) / 2) := by rcases hk with rfl | rfl; exact hw 10 (by decide); exact hw 11 (by decide)
  have L54 : wordL L 54 = wordL o 26 := hw 13 (by decide)
  have aL : aC L (28 + k) a0 = [(wordL a1.2 0, wordL x k), (wordL a1.2 2, wordL x (k + 2))] := by
    unfold aC
    rw [Lk, Lk2, o3, o4, h.w0, h.w2]
  have r38 : qS L k a0 = wordL x 10 := by
    unfold qS
    rw [L38, o2, aL]
    exact rt_ip ⟨b10.1, s10⟩ bk c0 bk2 c2
  have r54 : udpW L (28 + k) (48 + (k - 12) / 2) a0 p0 54 = wordL x 26 := by
    unfold udpW
    rw [L54, o6, aL, Lq, o5]
    unfold udpW
    by_cases h0 : wordL x 26 = 0
    · rw [if_pos h0, if_pos rfl, h0]
    · rw [if_neg h0]
      have bx := wordL_bd x 26
      have hq := wordL_bd x (20 + (k - 12) / 2)
      have okU : ∀ c ∈ aC x k a1 ++ [(wordL x (20 + (k - 12) / 2), p1)], okCh c := ok_snoc (aC_ok x k a1) ⟨hq.1, hq.2, h.p1.1, h.p1.2⟩
      have hu := udpS_b3 okU bx
      rw [if_neg (by omega), h.wp]
      exact rt_udp ⟨by omega, bx.2⟩ bk c0 bk2 c2 hp0 h.p1
  refine words_ext (by rw [List.length_drop, q1, hx28, hl56]) (by rw [hx28]) fun i hi => ?_
  rw [hx28] at hi
  rw [wordL_drop, wordL_take (by omega)]
  by_cases e1 : 2 * i = 10
  · rw [e1, ← r38]
    exact q2
  by_cases e2 : 2 * i = k
  · rw [e2, q3, h.w0]
  by_cases e3 : 2 * i = k + 2
  · rw [e3, ← Nat.add_assoc, q4, h.w2]
  by_cases e4 : 2 * i = 20 + (k - 12) / 2
  · rw [e4, ← Nat.add_assoc, q5, h.wp]
  by_cases e5 : 2 * i = 26
  · rw [e5, ← r54]
    exact q6
  have hq := q10 (14 + i) (by omega) (by omega) (by omega) (by omega) (by omega) (by omega)
  rw [show 2 * (14 + i) = 28 + 2 * i by omega] at hq
  rw [hq, hw i (by omega), o7 i e1 e2 e3 e4 e5]
theorem four_split {a : Ad} (h : fourA a = true) : a.1 = 4 ∧ validA a = true := by
  unfold fourA at h
  simpa using h
theorem lookE_take {x : List UInt8} (e0 : parseE x = 0) (head : headL x = 20) (off : (parseP x).off = 0) (more : (parseP x).more = false) (len : 28 ≤ x.length) : lookE (x.take 28) = 0 ∧ wordL (x.take 28) 2 = x.length := by
  have hf := facts_of e0
  have hl : (x.take 28).length = 28 := by rw [List.length_take]; omega
  have g0 : (x.take 28).getD 0 0 = x.getD 0 0 := getD_take (by decide)
  have w : ∀ j, j + 1 < 28 → wordL (x.take 28) j = wordL x j := fun j hj => wordL_take hj
  have hh : headL (x.take 28) = 20 := by
    unfold headL
    rw [g0]
    exact head
  have hsum := hf.sum
  rw [head] at hsum
  have ht : (x.take 28).take 20 = x.take 20 := by rw [List.take_take, Nat.min_eq_left (by decide)]
  have hb := ofL_bd (zeroed (x.take 20))
  have h10 : wordL x 10 = ofL (zeroed (x.take 20)) := by
    unfold checkedL at hsum
    simp only [Bool.and_eq_true, decide_eq_true_eq] at hsum
    rw [getD_take (by decide), getD_take (by decide)] at hsum
    show ((x.getD 10 0).toNat : Int) * 256 + ((x.getD 11 0).toNat : Int) = _
    omega
  have hfl : wordL x 6 / 32768 ≠ 1 := by
    have h1 := hf.flag
    have b6 := wordL_bd x 6
    have h2 := andBit b6.1 b6.2 15 (by decide)
    intro h3
    have h4 : decide (wordL x 6 / ((2 ^ 15 : Nat) : Int) % 2 = 1) = true := decide_eq_true (by show wordL x 6 / 32768 % 2 = 1; rw [h3]; rfl)
    rw [h4] at h2
    exact h1 (bne_iff_ne.1 h2)
  have h2 : wordL x 2 = x.length := hf.size
  refine ⟨?_, (w 2 (by decide)).trans h2⟩
  unfold lookE
  rw [if_neg (by omega), g0, if_neg (by rw [hf.v4]; exact fun e => e rfl), hh, if_neg (by decide), if_neg (by omega), ht, w 10 (by decide), if_neg (by rw [h10]; exact fun e => e rfl), w 6 (by decide), if_neg hfl, w 2 (by decide), if_neg (by omega), if_neg]
  rw [Nat.sub_self, List.take_zero]
  decide
set_option maxHeartbeats 1000000 in
theorem quote_tells {x : List UInt8} {k j : Nat} {a0 a1 S T c : Ad} {p0 p1 typ code rest : Int} (h : Thru x k a0 a1 p0 p1) (hj : (k = 12 ∧ j = 16) ∨ (k = 16 ∧ j = 12)) (okS : okAd S) (okT : okAd T) (fS : fourA S = true) (fT : fourA T = true) (fc : fourA c = true) (hc : Is4 c)
    (ht : 1 ≤ typ ∧ typ ≤ 255) (hcode : 0 ≤ code ∧ code ≤ 255) (hr : 0 ≤ rest ∧ rest ≤ 4294967295) :
    TellsOk (quoteL (addressL (carriedL S T ⟨4, typ, code, rest, (endL x k a1 p1 20).take 28⟩) j c) k a0 p0 20) (if k = 12 then S else c) (if k = 12 then c else T) x ⟨4, typ, code, rest, (endL x k a1 p1 20).take 28⟩ := by
  have hk := h.hk
  have hlenx := h.len
  have hj2 : j = 12 ∨ j = 16 := by omega
  have hp0 : 0 ≤ p0 ∧ p0 ≤ 65535 := by rw [← h.wp]; exact wordL_bd _ _
  obtain ⟨o1, -⟩ := end_w (l := x) (k := k) (a := a1) (p := p1) hk h.len h.p1
  have hbl : ((endL x k a1 p1 20).take 28).length = 28 := by rw [List.length_take, o1]; omega
  have hC := carried_of (m := ⟨4, typ, code, rest, (endL x k a1 p1 20).take 28⟩) okS okT fS fT (by show ((endL x k a1 p1 20).take 28).length ≤ 65507; omega)
  obtain ⟨w1, w2, w3, w4, w5, w6⟩ := icL_w (S := S) (T := T) (body := (endL x k a1 p1 20).take 28) ⟨by omega, ht.2⟩ hcode hr
  have hlD := icL_len S T ⟨4, typ, code, rest, (endL x k a1 p1 20).take 28⟩
  have hl0 := msg0_len ⟨4, typ, code, rest, (endL x k a1 p1 20).take 28⟩
  have hlb := hC.len
  have hb20 := hC.d
  have hP0 := hC.p
  have hF := facts_of hC.e0
  have hhb := hC.head
  obtain ⟨m0, hm0⟩ : ∃ m0, msg0 ⟨4, typ, code, rest, (endL x k a1 p1 20).take 28⟩ = m0 := ⟨_, rfl⟩
  have hm00 : 0 < (m0.getD 0 0).toNat := by
    have : ((m0.getD 0 0).toNat : Int) = typ := by rw [← hm0]; exact u8_of (v := typ) (by omega) ht.2
    omega
  rw [hm0] at w5 w6 hl0
  generalize carriedL S T ⟨4, typ, code, rest, (endL x k a1 p1 20).take 28⟩ = b at *
  generalize icL S T ⟨4, typ, code, rest, (endL x k a1 p1 20).take 28⟩ = D at *
  dsimp only at hlD hl0 hlb
  rw [hbl] at hlD hl0 hlb
  have hK : Kept b (quoteL (addressL b j c) k a0 p0 20) j c := by
    have := quote_kept (q := k) (a := c) (b := a0) (port := p0) hj2 hF
    rwa [hhb] at this
  obtain ⟨f1, f2, f3, f4, f5⟩ := hK.parse hj2 hF
  rw [hhb] at f2
  have hlL : (addressL b j c).length = 56 := by rw [addressL_len, hlb]
  have hdL : (addressL b j c).drop 20 = D := by rw [addressL_drop (by omega) (by decide), hb20]
  have hwL : ∀ i, i < 14 → wordL (addressL b j c) (28 + 2 * i) = wordL (endL x k a1 p1 20) (2 * i) := fun i hi => by
    rw [show 28 + 2 * i = 20 + (8 + 2 * i) by omega, ← wordL_drop, hdL, ← wordL_drop, w1, wordL_take (by omega)]
  obtain ⟨h5, hB⟩ := quote_bytes h (by omega) hwL hlL
  obtain ⟨q1, q2, q3, q4, q5, q6, q7, q8, q9, q10⟩ := quote_w (L := addressL b j c) (k := k) (a := a0) (p := p0) hk (by omega) h5 hp0
  have c2 := hK.addr hc (by omega)
  have hkeep := hK.keep
  rw [hhb] at hkeep
  have hlK := hK.len
  have hwq : ∀ i, i < 14 → wordL (addressL b j c) (20 + i) = wordL D i := fun i _ => by rw [← wordL_drop, hdL]
  have w22 := hwq 2 (by decide)
  have r20 := (q10 10 (by decide) (by omega) (by omega) (by omega) (by decide) (by decide)).trans (hwq 0 (by decide))
  have r24 := (q10 12 (by decide) (by omega) (by omega) (by omega) (by decide) (by decide)).trans (hwq 4 (by decide))
  have r26 := (q10 13 (by decide) (by omega) (by omega) (by omega) (by decide) (by decide)).trans (hwq 6 (by decide))
  rw [hdL, w5] at q9
  have q7 : wordL (quoteL (addressL b j c) k a0 p0 20) 22 = patchL (wordL D 2) (qCC (addressL b j c) k a0 p0) := q7.trans (by rw [show (22 : Nat) = 20 + 2 from rfl, w22])
  generalize qCC (addressL b j c) k a0 p0 = CC at *
  generalize addressL b j c = L at *
  generalize quoteL L k a0 p0 20 = R at *
  have hdatE : ∀ (l : List UInt8) (n : Nat), (readP l n).data = l.drop n := fun _ _ => rfl
  have hE := parse_of f1
  have hPR := parseP_of hE
  rw [f2] at hPR
  have hPb := parseP_of hC.e0
  rw [hhb, hP0] at hPb
  have hdat : (parseP R).data = R.drop 20 := by rw [hPR, hdatE]
  have hbyte : ∀ i, i < 20 → i ≠ 10 ∧ i ≠ 11 ∧ ¬ (j ≤ i ∧ i < j + 4) → R.getD i 0 = b.getD i 0 := fun i h1 h2 => hkeep i h1 h2
  have hproto : (parseP R).proto = 1 := by
    show _ = (icPk S T D).proto
    rw [hPR, hPb]
    show ((R.getD 9 0).toNat : Int) = ((b.getD 9 0).toNat : Int)
    rw [hbyte 9 (by decide) (by omega)]
  have httl : (parseP R).ttl = 60 := by
    show _ = (icPk S T D).ttl
    rw [hPR, hPb]
    show ((R.getD 8 0).toNat : Int) = ((b.getD 8 0).toNat : Int)
    rw [hbyte 8 (by decide) (by omega)]
  have hsrc : (parseP R).src = (if k = 12 then S else c) := by
    rw [hPR]
    rcases hj with ⟨h1, h2⟩ | ⟨h1, h2⟩
    · rw [if_pos h1]
      subst h2
      have e : (icPk S T D).src = S := rfl
      rw [← e, hPb]
      show ((4, (R.drop 12).take 4 ++ z12) : Ad) = (4, (b.drop 12).take 4 ++ z12)
      rw [cut_ext hlK (fun i h3 h4 => hbyte i (by omega) (by omega))]
    · rw [if_neg (by omega)]
      subst h2
      exact c2
  have hdst : (parseP R).dst = (if k = 12 then c else T) := by
    rw [hPR]
    rcases hj with ⟨h1, h2⟩ | ⟨h1, h2⟩
    · rw [if_pos h1]
      subst h2
      exact c2
    · rw [if_neg (by omega)]
      subst h2
      have e : (icPk S T D).dst = T := rfl
      rw [← e, hPb]
      show ((4, (R.drop 16).take 4 ++ z12) : Ad) = (4, (b.drop 16).take 4 ++ z12)
      rw [cut_ext hlK (fun i h3 h4 => hbyte i (by omega) (by omega))]
  obtain ⟨A, hAe⟩ : ∃ A, (if k = 12 then S else c) = A := ⟨_, rfl⟩
  obtain ⟨B, hBe⟩ : ∃ B, (if k = 12 then c else T) = B := ⟨_, rfl⟩
  have fA : fourA A = true := by rw [← hAe]; split <;> assumption
  have fB : fourA B = true := by rw [← hBe]; split <;> assumption
  rw [hAe] at hsrc ⊢
  rw [hBe] at hdst ⊢
  obtain ⟨A4, Av⟩ := four_split fA
  obtain ⟨B4, Bv⟩ := four_split fB
  have hRlen : R.length = 56 := by rw [hlK]; omega
  have hDl : (R.drop 20).length = 36 := by rw [List.length_drop]; omega
  have g0 := bytes_of (l := D) (l' := R.drop 20) (j := 0) (by rw [wordL_drop]; exact r20)
  have g4 := bytes_of (l := D) (l' := R.drop 20) (j := 4) (by rw [wordL_drop]; exact r24)
  have g6 := bytes_of (l := D) (l' := R.drop 20) (j := 6) (by rw [wordL_drop]; exact r26)
  have hd8 : (R.drop 20).drop 8 = x.take 28 := by rw [List.drop_drop]; exact hB
  have h44 : ((R.drop 20).drop 4).take 4 = (D.drop 4).take 4 := cut_ext (by rw [hDl]; omega) (fun i h1 h2 => by
    have : i = 4 ∨ i = 5 ∨ i = 6 ∨ i = 7 := by omega
    rcases this with rfl | rfl | rfl | rfl
    · exact g4.1
    · exact g4.2
    · exact g6.1
    · exact g6.2)
  -- the checksum
  have ST : icSum S T m0 = foldI (wsum m0) := by
    have := (four_split fS).1
    unfold icSum
    rw [if_neg (by omega)]
    rfl
  rw [ST] at w6
  have hp0w : 0 < wsum m0 := wsum_pos hm00
  have hfold := foldI_pos hp0w
  have hmod := foldI_mod (n := wsum m0) (by omega)
  have hW2 : 0 ≤ wordL D 2 ∧ wordL D 2 < 65535 := by omega
  have hPl := patchL_lt q8 hW2
  have hPb2 := patchL_bd q8 (s := wordL D 2) ⟨hW2.1, by omega⟩
  have hPm := patchL_mod q8 (s := wordL D 2) ⟨hW2.1, by omega⟩
  have hpos : 0 < wsum (setW (R.drop 20) 2 0) := by
    refine wsum_pos ?_
    have e : (setW (R.drop 20) 2 0).getD 0 0 = (R.drop 20).getD 0 0 := setW_getD (by decide) (by decide)
    rw [e, g0.1]
    omega
  have hfold2 := foldI_pos hpos
  have hmod2 := foldI_mod (n := wsum (setW (R.drop 20) 2 0)) (by omega)
  have hright : icRight A B (R.drop 20) = true := by
    have e1 : icSum A B (clear2 (R.drop 20)) = foldI (wsum (setW (R.drop 20) 2 0)) := by
      unfold icSum
      rw [if_neg (by omega), clear2_eq]
      rfl
    have e2 : (((R.drop 20).getD 2 0).toNat : Int) * 256 + ((R.drop 20).getD 3 0).toNat = wordL R 22 := by
      rw [show (22 : Nat) = 20 + 2 from rfl, ← wordL_drop]
      rfl
    unfold icRight
    rw [e1, e2, q7]
    exact decide_eq_true (by omega)
  have hic : icE A B (R.drop 20) = 0 := by
    have hof : ofA B A.1 = true := by unfold ofA; rw [A4, B4, Bv]; rfl
    have hmst : mostV A.1 = 65515 := by unfold mostV; rw [if_pos A4]
    unfold icE
    rw [hof, Av, if_neg (by decide), if_neg (by omega), if_neg (by rw [hmst]; omega), hright, if_neg (by decide)]
  have hicP : icP A B (R.drop 20) = ⟨4, typ, code, rest, x.take 28⟩ := by
    unfold icP
    rw [if_pos hic, A4, g0.1, g0.2, h44, hd8, w2, w3, w4]
  obtain ⟨lk1, lk2⟩ := lookE_take h.e0 h.head h.off h.more h.len
  have hx28 : (x.take 28).length = 28 := by rw [List.length_take]; omega
  have hxm := (facts_of h.e0).size
  have hxb := wordL_bd x 2
  refine ⟨hE, hsrc, hdst, hproto, httl, by rw [hdat]; exact hic, by rw [hdat, hicP], by rw [hdat, hicP], by rw [hdat, hicP], by rw [hdat, hicP], ?_, ?_, by omega, by rw [hdat, hicP]; exact lk1, by rw [hdat, hicP]; exact lk2, ?_, ?_⟩
  · rw [hdat, hicP]
    show (x.take 28).length = ((endL x k a1 p1 20).take 28).length
    rw [hx28, hbl]
  · show ((endL x k a1 p1 20).take 28).length ≤ _
    omega
  · rw [hdat, hicP]
    show x.take 28 = x.take ((endL x k a1 p1 20).take 28).length
    rw [hbl]
  · show 20 ≤ ((endL x k a1 p1 20).take 28).length
    omega
end Go.Proofs.YtofomopdaponbaaGreatDoor
/-
  Errors through a nat with one mapping: what goes in, what goes out. Plain: no program in sight.
-/
namespace Go.Proofs.YtofomopdaponbaaGreatDoor
open Go.RowKit
set_option linter.unusedVariables false
set_option linter.unusedSimpArgs false

theorem told_eq {x : Int} {o : List UInt8} (e : parseE o = 0) (h : headL o = 20) (hl : 28 ≤ o.length) :
    ∃ typ code rest : Int, toldM x o = ⟨4, typ, code, rest, o.take 28⟩ ∧ (typ = 3 ∨ typ = 11) ∧ (0 ≤ code ∧ code ≤ 255) ∧ (0 ≤ rest ∧ rest ≤ 4294967295) := by
  have hp := (parse_ok e).head
  rw [h] at hp
  have hb : o.take (min (o.length : Int) (headP (parseP o) + 8)).toNat = o.take 28 := by
    rw [hp]
    congr 1
    omega
  refine ⟨typK (kOf x), codeK (kOf x), if x = 0 then 68 else 0, ?_, ?_, ?_, by split <;> decide⟩
  · unfold toldM aboutM
    rw [hb]
  · unfold kOf
    split
    · exact .inl rfl
    split
    · exact .inl rfl
    split
    · exact .inl rfl
    split
    · exact .inr rfl
    · exact .inr rfl
  · unfold kOf
    split
    · exact ⟨by decide, by decide⟩
    split
    · exact ⟨by decide, by decide⟩
    split
    · exact ⟨by decide, by decide⟩
    split
    · exact ⟨by decide, by decide⟩
    · exact ⟨by decide, by decide⟩
/-- A packet that went through is one: taken apart. -/
theorem thru_parsed {x : List UInt8} {k : Nat} {a0 a1 : Ad} {p0 p1 : Int} (h : Thru x k a0 a1 p0 p1) (ha : Is4 a1) : parseE (endL x k a1 p1 20) = 0 ∧ headL (endL x k a1 p1 20) = 20 ∧ (endL x k a1 p1 20).length = x.length := by
  have hf := facts_of h.e0
  have hK : Kept x (endL x k a1 p1 20) k a1 := by
    have := end_kept (a := a1) (port := p1) h.hk hf
    rwa [h.head] at this
  obtain ⟨f1, f2, -, -, -⟩ := hK.parse h.hk hf
  exact ⟨parse_of f1, f2.trans h.head, hK.len⟩
theorem cut_words {l : List UInt8} {k : Nat} {a : Ad} (ha : Is4 a) (hl : k + 4 ≤ l.length) (h0 : wordL l k = wordL a.2 0) (h2 : wordL l (k + 2) = wordL a.2 2) : ((4, (l.drop k).take 4 ++ List.replicate 12 0) : Ad) = a := by
  obtain ⟨v, y⟩ := a
  obtain ⟨h1, h3, h4⟩ := ha
  have b0 := bytes_of (l := y) (l' := l.drop k) (j := 0) (by rw [wordL_drop]; exact h0)
  have b2 := bytes_of (l := y) (l' := l.drop k) (j := 2) (by rw [wordL_drop]; exact h2)
  have h4 : (y.take 4).length = 4 := h4
  have hy : 4 ≤ y.length := by rw [List.length_take] at h4; omega
  refine Prod.ext h1.symm ?_
  have h3 : y = y.take 4 ++ z12 := h3
  rw [h3]
  show (l.drop k).take 4 ++ z12 = _
  have e : (l.drop k).take 4 = y.take 4 := by
    refine getD_ext (by rw [h4, List.length_take, List.length_drop]; omega) fun j hj => ?_
    rw [h4] at hj
    rw [getD_take hj, getD_take hj]
    have : j = 0 ∨ j = 1 ∨ j = 2 ∨ j = 3 := by omega
    rcases this with rfl | rfl | rfl | rfl
    · exact b0.1
    · exact b0.2
    · exact b2.1
    · exact b2.2
  rw [e]
/-- The quote of an error about such a packet is one. -/
theorem quoted_of {x : List UInt8} {k : Nat} {a0 a1 S T : Ad} {p0 p1 typ code rest : Int} (h : Thru x k a0 a1 p0 p1) (ha : Is4 a1) (ht : typ = 3 ∨ typ = 11) (hc : 0 ≤ code ∧ code ≤ 255) (hr : 0 ≤ rest ∧ rest ≤ 4294967295) :
    quotedB (icPk S T (icL S T ⟨4, typ, code, rest, (endL x k a1 p1 20).take 28⟩)) = true ∧ qN (icPk S T (icL S T ⟨4, typ, code, rest, (endL x k a1 p1 20).take 28⟩)) = 20 ∧
      qL (icPk S T (icL S T ⟨4, typ, code, rest, (endL x k a1 p1 20).take 28⟩)) = (endL x k a1 p1 20).take 28 ∧ qaddrA (((endL x k a1 p1 20).take 28).take 20) k = a1 ∧ wordL (((endL x k a1 p1 20).take 28).drop 20) ((k - 12) / 2) = p1 := by
  have hk := h.hk
  obtain ⟨e1, e2, e3⟩ := thru_parsed h ha
  obtain ⟨o1, o2, o3, o4, o5, o6, o7⟩ := end_w (l := x) (k := k) (a := a1) (p := p1) hk h.len h.p1
  obtain ⟨w1, w2, w3, w4, w5, w6⟩ := icL_w (S := S) (T := T) (typ := typ) (body := (endL x k a1 p1 20).take 28) (by omega) hc hr
  have hlD := icL_len S T ⟨4, typ, code, rest, (endL x k a1 p1 20).take 28⟩
  have hl := h.len
  generalize endL x k a1 p1 20 = o at *
  generalize icL S T ⟨4, typ, code, rest, o.take 28⟩ = D at *
  have hob : (o.take 28).length = 28 := by rw [List.length_take]; omega
  have hlD : D.length = 36 := by rw [hlD]; show 8 + (o.take 28).length = 36; omega
  have hq : qL (icPk S T D) = o.take 28 := w1
  have ho0 : (o.take 28).getD 0 0 = o.getD 0 0 := getD_take (by decide)
  have hf := facts_of e1
  have hx := facts_of h.e0
  have hn : qN (icPk S T D) = 20 := by
    unfold qN
    rw [hq, ho0]
    unfold headL at e2
    omega
  have hPx := parseP_of h.e0
  rw [h.head] at hPx
  have h9 : (o.getD 9 0).toNat = 17 := by
    have hp := h.proto
    rw [hPx] at hp
    have hp : ((x.getD 9 0).toNat : Int) = 17 := hp
    have := (bytes_of (l := x) (l' := o) (j := 2 * 4) (o7 4 (by decide) (by omega) (by omega) (by omega) (by decide))).2
    rw [show (2 * 4 + 1 : Nat) = 9 from rfl] at this
    rw [this]
    omega
  have h6 : wordL o 6 % 8192 = 0 := by
    have hp := h.off
    rw [hPx] at hp
    have hp : wordL x 6 % 8192 * 8 = 0 := hp
    have := o7 3 (by decide) (by omega) (by omega) (by omega) (by decide)
    rw [show (2 * 3 : Nat) = 6 from rfl] at this
    rw [this]
    omega
  refine ⟨?_, hn, hq, ?_, ?_⟩
  · have k1 : quoted1 (icPk S T D) = true := by
      unfold quoted1
      have z1 : (icPk S T D).data = D := rfl
      rw [z1, hlD]
      rfl
    have k2 : errKind ((icPk S T D).data.getD 0 0).toNat = true := by
      have z1 : (icPk S T D).data = D := rfl
      rw [z1]
      have : (D.getD 0 0).toNat = 3 ∨ (D.getD 0 0).toNat = 11 := by omega
      rcases this with e | e <;> rw [e] <;> rfl
    have k3 : quoted2 (icPk S T D) = true := by
      unfold quoted2
      rw [hn, hq, ho0, getD_take (by decide), wordL_take (by decide), hob, h9, h6, hf.v4]
      rfl
    unfold quotedB
    rw [k1, k2, k3]
    rfl
  · have e : (o.take 28).take 20 = o.take 20 := by rw [List.take_take, Nat.min_eq_left (by decide)]
    have ht20 : (o.take 20).length = 20 := by rw [List.length_take]; omega
    rw [e]
    exact cut_words ha (by omega) (by rw [wordL_take (by omega)]; exact o3) (by rw [wordL_take (by omega)]; exact o4)
  · rw [wordL_drop, wordL_take (by omega)]
    exact o5
/-- An error comes in. -/
theorem came_err {p n t u : Int} {a : Ad} {sp : Int} {x : List UInt8} {p0 : Int} {S : Ad} {typ code rest : Int} {m : Mg} (hI : Inv n (oneS p n u a sp)) (h1 : n ≤ t) (h2 : t ≤ 1000) (hu : 0 ≤ u ∧ u ≤ t) (hl : t - u < 100) (h : Thru x 12 a (fourD 192 0 2 1) p0 4000) (hC : Carried S (fourD 192 0 2 1) m (carriedL S (fourD 192 0 2 1) m))
    (hm : m = ⟨4, typ, code, rest, (endL x 12 (fourD 192 0 2 1) 4000 20).take 28⟩) (ht : typ = 3 ∨ typ = 11) (hc : 0 ≤ code ∧ code ≤ 255) (hr : 0 ≤ rest ∧ rest ≤ 4294967295) (hS : outsideA (wideC 255) S = true) :
    cameS (oneS p n u a sp) t (carriedL S (fourD 192 0 2 1) m) = (0, quoteL (addressL (carriedL S (fourD 192 0 2 1) m) 16 a) 12 a sp 20, oneS p t u a sp) ∧ Inv t (oneS p t u a sp) := by
  have h2' : t ≤ 1099511627776 := by omega
  have hp := (hI.passes h1 h2').2
  rw [passes_one hI h1 h2' rfl rfl hu hl rfl rfl] at hp
  have e : cameS (oneS p n u a sp) t (carriedL S (fourD 192 0 2 1) m) = (0, quoteL (addressL (carriedL S (fourD 192 0 2 1) m) 16 a) 12 a sp 20, oneS p t u a sp) := by
    rw [came_eq hI h1 h2' hC.e0, passes_one hI h1 h2' rfl rfl hu hl rfl rfl, hC.p]
    have hhead := hC.head
    generalize carriedL S (fourD 192 0 2 1) m = b at *
    subst hm
    obtain ⟨q1, q2, q3, q4, q5⟩ := quoted_of (S := S) (T := fourD 192 0 2 1) h (is4_four 192 0 2 1) ht hc hr
    generalize icL S (fourD 192 0 2 1) ⟨4, typ, code, rest, (endL x 12 (fourD 192 0 2 1) 4000 20).take 28⟩ = D at *
    generalize endL x 12 (fourD 192 0 2 1) 4000 20 = o at *
    have hb : outsideA (oneS p t u a sp).cf S = true := hS
    have z1 : (icPk S (fourD 192 0 2 1) D).dst = fourD 192 0 2 1 := rfl
    have z2 : (icPk S (fourD 192 0 2 1) D).src = S := rfl
    have z3 : (icPk S (fourD 192 0 2 1) D).proto ≠ 17 := by show (1 : Int) ≠ 17; decide
    have z4 : (oneS p t u a sp).cf.outside = fourD 192 0 2 1 := rfl
    have z5 : (oneS p t u a sp).maps = [⟨a, sp, 4000, u⟩] := rfl
    have hfind : [(⟨a, sp, 4000, u⟩ : Nm)].find? (outIs 4000) = some ⟨a, sp, 4000, u⟩ := rfl
    unfold cameR
    rw [z1, z2, z4, hb, decide_eq_true rfl, if_neg (by decide), if_neg z3, q1, q2, q3, q4, decide_eq_true rfl, if_neg (by decide), q5, z5, hfind]
    rw [hhead]
  refine ⟨e, ?_⟩
  have h3 := hI.cameS h1 h2' (carriedL S (fourD 192 0 2 1) m)
  rw [e] at h3
  exact h3
/-- An error goes out. -/
theorem out_err {p n t u : Int} {a : Ad} {sp : Int} {x : List UInt8} {p0 : Int} {S T : Ad} {typ code rest : Int} {m : Mg} (hI : Inv n (oneS p n u a sp)) (h1 : n ≤ t) (h2 : t ≤ 1000) (hu : 0 ≤ u ∧ u ≤ t) (hl : t - u < 100) (h : Thru x 16 (fourD 192 0 2 1) a p0 sp) (ha : Is4 a) (hC : Carried S T m (carriedL S T m))
    (hm : m = ⟨4, typ, code, rest, (endL x 16 a sp 20).take 28⟩) (ht : typ = 3 ∨ typ = 11) (hc : 0 ≤ code ∧ code ≤ 255) (hr : 0 ≤ rest ∧ rest ≤ 4294967295) (hS : insideA (wideC 255) S = true) (hT : outsideA (wideC 255) T = true) :
    outS (oneS p n u a sp) t (carriedL S T m) = (0, quoteL (addressL (carriedL S T m) 12 (fourD 192 0 2 1)) 16 (fourD 192 0 2 1) 4000 20, oneS p t u a sp) := by
  have h2' : t ≤ 1099511627776 := by omega
  rw [out_eq hI h1 h2' hC.e0, passes_one hI h1 h2' rfl rfl hu hl rfl rfl, hC.p]
  have hhead := hC.head
  generalize carriedL S T m = b at *
  subst hm
  obtain ⟨q1, q2, q3, q4, q5⟩ := quoted_of (S := S) (T := T) h ha ht hc hr
  generalize icL S T ⟨4, typ, code, rest, (endL x 16 a sp 20).take 28⟩ = D at *
  generalize endL x 16 a sp 20 = o at *
  have hb : outsideA (oneS p t u a sp).cf T = true := hT
  have hi : insideA (oneS p t u a sp).cf S = true := hS
  have z1 : (icPk S T D).dst = T := rfl
  have z2 : (icPk S T D).src = S := rfl
  have z3 : (icPk S T D).proto ≠ 17 := by show (1 : Int) ≠ 17; decide
  have z4 : (oneS p t u a sp).cf.outside = fourD 192 0 2 1 := rfl
  have z5 : (oneS p t u a sp).maps = [⟨a, sp, 4000, u⟩] := rfl
  have hidx : idxI (endIs a sp) [(⟨a, sp, 4000, u⟩ : Nm)] = ((0 : Nat) : Int) := idx_here (by simp) (fun j hj => absurd hj (Nat.not_lt_zero _)) (by simp [endIs])
  have q5 : wordL ((o.take 28).drop 20) 2 = sp := q5
  have hport : portOf [(⟨a, sp, 4000, u⟩ : Nm)] ((0 : Nat) : Int) = 4000 := rfl
  unfold outR
  rw [z1, z2, hb, hi, if_neg (by decide), if_neg z3, q1, if_neg (by decide), q2, q3, q4, q5, z5, hidx, if_neg (by decide), hport, z4, hhead]
end Go.Proofs.YtofomopdaponbaaGreatDoor
