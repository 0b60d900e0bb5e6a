/-
  What goes out or comes in is right: the plain law. No program in sight.
-/
import Derived.Test.YtofomopdaponbaaGreatDoorYNva
import Derived.Test.YtofomopdaponbaaGreatDoorYNdi
import Derived.Test.YtofomopdaponbaaGreatDoorZi
namespace Go.Proofs.YtofomopdaponbaaGreatDoor
open Go.RowKit
set_option linter.unusedVariables false
set_option linter.unusedSimpArgs false

theorem wordL_drop {l : List UInt8} {h k : Nat} : wordL (l.drop h) k = wordL l (h + k) := by
  unfold wordL
  rw [getD_drop, getD_drop]
  rfl
theorem addI_mod {a b : Int} (h : 0 ≤ a + b) : addI a b % 65535 = (a + b) % 65535 := foldI_mod h
/-- The whole sum of a datagram, unfolded. -/
def sumI (a b : Ad) (l : List UInt8) : Int := wsum (a.2.take 4) + wsum (b.2.take 4) + 17 + l.length + wsum l
theorem whole_iff {a b : Ad} {l : List UInt8} (ha : a.1 = 4) : wholeI a b l = 65535 ↔ sumI a b l % 65535 = 0 := by
  have hN : longN a = 4 := if_pos ha
  unfold wholeI pseudoI sumI
  rw [hN]
  have p1 := wsum_le (a.2.take 4)
  have p2 := wsum_le (b.2.take 4)
  have p3 := wsum_le l
  unfold partL
  generalize wsum (a.2.take 4) = x at *
  generalize wsum (b.2.take 4) = y at *
  generalize wsum l = z at *
  have f1 := foldI_bd p1.1
  have f2 := foldI_bd p2.1
  have f3 := foldI_bd p3.1
  have m1 := foldI_mod p1.1
  have m2 := foldI_mod p2.1
  have m3 := foldI_mod p3.1
  generalize foldI x = fx at *
  generalize foldI y = fy at *
  generalize foldI z = fz at *
  have b1 := addI_bd f1.1 f2.1
  have n1 := addI_mod (a := fx) (b := fy) (by omega)
  generalize addI fx fy = g1 at *
  have b2 : 1 ≤ addI g1 17 ∧ addI g1 17 ≤ 65535 := foldI_pos (by omega)
  have n2 := addI_mod (a := g1) (b := 17) (by omega)
  generalize addI g1 17 = g2 at *
  have b3 : 1 ≤ addI g2 (l.length : Int) ∧ addI g2 (l.length : Int) ≤ 65535 := foldI_pos (by omega)
  have n3 := addI_mod (a := g2) (b := (l.length : Int)) (by omega)
  generalize addI g2 (l.length : Int) = g3 at *
  have b4 : 1 ≤ addI g3 fz ∧ addI g3 fz ≤ 65535 := foldI_pos (by omega)
  have n4 := addI_mod (a := g3) (b := fz) (by omega)
  generalize addI g3 fz = g4 at *
  omega
theorem pair4 {x y : List UInt8} (hx : x.length = 4) (hy : y.length = 4) : pairA (4, x ++ z12) (4, y ++ z12) = true := by
  have four : ∀ z : List UInt8, z.length = 4 → validA (4, z ++ z12) = true := fun z hz => by
    have hdr : (z ++ z12).drop 4 = z12 := by
      rw [List.drop_append, hz, List.drop_of_length_le (by omega)]
      rfl
    unfold validA bitsA
    simp only [hdr]
    rfl
  unfold pairA
  rw [four x hx, four y hy]
  rfl
theorem wsum4 {x : List UInt8} (hx : x.length = 4) : wsum x = wordL x 0 + wordL x 2 := by
  match x, hx with
  | [a, b, c, d], _ => simp [wsum, wordL]
theorem take4 {x : List UInt8} (hx : x.length = 4) : (x ++ z12).take 4 = x := by
  rw [List.take_append_of_le_length (by omega), List.take_of_length_le (by omega)]
def datE (l d : List UInt8) : Int := udpE (4, (l.drop 12).take 4 ++ z12) (4, (l.drop 16).take 4 ++ z12) d
def sum4 (l d : List UInt8) : Int := wordL l 12 + wordL l 14 + wordL l 16 + wordL l 18 + 17 + d.length + wsum d
theorem cut4 {l : List UInt8} {k : Nat} (h : k + 4 ≤ l.length) : ((l.drop k).take 4).length = 4 ∧ wsum ((l.drop k).take 4) = wordL l k + wordL l (k + 2) := by
  have e : ((l.drop k).take 4).length = 4 := by rw [List.length_take, List.length_drop]; omega
  refine ⟨e, ?_⟩
  rw [wsum4 e, wordL_take (by omega), wordL_take (by omega), wordL_drop, wordL_drop]
  rfl
theorem dat_iff {l d : List UInt8} (h : 20 ≤ l.length) (h8 : 8 ≤ d.length) : datE l d = 0 ↔ (wordL d 4 = d.length ∧ (d.length : Int) - 8 ≤ 65507 ∧ (wordL d 6 = 0 ∨ sum4 l d % 65535 = 0)) := by
  have c1 := cut4 (l := l) (k := 12) (by omega)
  have c2 := cut4 (l := l) (k := 16) (by omega)
  have hs : sumI (4, (l.drop 12).take 4 ++ z12) (4, (l.drop 16).take 4 ++ z12) d = sum4 l d := by
    unfold sumI sum4
    simp only [take4 c1.1, take4 c2.1, c1.2, c2.2, show 12 + 2 = 14 from rfl, show 16 + 2 = 18 from rfl]
    omega
  have hw := whole_iff (a := (4, (l.drop 12).take 4 ++ z12)) (b := (4, (l.drop 16).take 4 ++ z12)) (l := d) rfl
  rw [hs] at hw
  unfold datE udpE
  rw [pair4 c1.1 c2.1, if_neg (by decide), if_neg (by omega)]
  have hm : mostI 4 = 65507 := rfl
  simp only [hm]
  split
  · rename_i g
    exact ⟨fun e => absurd e (by decide), fun e => by omega⟩
  rename_i g
  split
  · rename_i g2
    refine ⟨fun e => absurd e (by decide), fun e => ?_⟩
    rcases g2 with g2 | g2
    · exact absurd g2.2 (by decide)
    · rcases e.2.2 with e1 | e1
      · exact absurd e1 g2.1
      · exact absurd (hw.2 e1) g2.2
  · rename_i g2
    refine ⟨fun _ => ⟨by omega, by omega, ?_⟩, fun _ => rfl⟩
    by_cases h6 : wordL d 6 = 0
    · exact .inl h6
    · refine .inr (hw.1 (Classical.byContradiction fun hn => g2 (.inr ⟨h6, hn⟩)))
theorem udpL_drop {l : List UInt8} {h : Nat} {chs : List (Int × Int)} : (udpL l (h + 6) chs).drop h = udpL (l.drop h) 6 chs := by
  unfold udpL
  rw [wordL_drop]
  split
  · rfl
  · exact setW_drop
/-- The datagram within is right just as it was. -/
theorem end_valid {l : List UInt8} {k : Nat} {a : Ad} {port : Int} (hk : k = 12 ∨ k = 16) (h : Facts l) (h8 : 8 ≤ (l.drop (headL l)).length) :
    datE (endL l k a port (headL l)) ((endL l k a port (headL l)).drop (headL l)) = 0 ↔ datE l (l.drop (headL l)) = 0 := by
  have h20 := h.h20
  have hlen := h.len
  generalize hH : headL l = H at *
  have hll : (endL l k a port H).length = l.length := endL_len _ _ _ _ _
  have hdl : (l.drop H).length = l.length - H := List.length_drop
  have hp := show 0 ≤ p16 port ∧ p16 port ≤ 65535 by unfold p16; omega
  have hd : (endL l k a port H).drop H = udpL (setW (l.drop H) ((k - 12) / 2) (p16 port)) 6 (endC l k a port H) := by
    unfold endL end3L
    rw [udpL_drop, setW_drop, addressL_drop (by omega) (by omega)]
  have hB : Beyond (addressL l k a) (endL l k a port H) H := end_beyond
  have hat : ∀ i, i < 4 → (endL l k a port H).getD (k + i) 0 = a.2.getD i 0 := fun i hi => by
    rw [hB.keep _ (by omega)]
    exact addressL_at hk (by omega) hi
  have hkeep : ∀ j, 12 ≤ j → j < 20 → ¬ (k ≤ j ∧ j < k + 4) → (endL l k a port H).getD j 0 = l.getD j 0 := fun j h1 h2 h3 => by
    rw [hB.keep _ (by omega)]
    exact addressL_keep (by omega)
  have e0 : wordL (endL l k a port H) k = wordL a.2 0 := by
    unfold wordL
    rw [hat 1 (by omega), show (endL l k a port H).getD k 0 = a.2.getD 0 0 from hat 0 (by omega)]
  have e2 : wordL (endL l k a port H) (k + 2) = wordL a.2 2 := by
    unfold wordL
    rw [hat 2 (by omega), show k + 2 + 1 = k + 3 from rfl, hat 3 (by omega)]
  have o0 : ∀ j, 12 ≤ j → j + 1 < 20 → (j + 1 < k ∨ k + 4 ≤ j) → wordL (endL l k a port H) j = wordL l j := fun j h1 h2 h3 => by
    unfold wordL
    rw [hkeep j h1 (by omega) (by omega), hkeep (j + 1) (by omega) (by omega) (by omega)]
  have w6 : wordL (setW (l.drop H) ((k - 12) / 2) (p16 port)) 6 = wordL (l.drop H) 6 := wordL_setW_ne (by omega)
  have w4 : wordL (setW (l.drop H) ((k - 12) / 2) (p16 port)) 4 = wordL (l.drop H) 4 := wordL_setW_ne (by omega)
  have ws : wsum (setW (l.drop H) ((k - 12) / 2) (p16 port)) = wsum (l.drop H) - wordL (l.drop H) ((k - 12) / 2) + p16 port := by
    have := wsum_setW ((k - 12) / 4) (l.drop H) (p16 port) (by omega) hp.1 hp.2
    rw [show 2 * ((k - 12) / 4) = (k - 12) / 2 by omega] at this
    exact this
  have hlE : (setW (l.drop H) ((k - 12) / 2) (p16 port)).length = (l.drop H).length := setW_len _ _ _
  rw [dat_iff (by omega) h8, dat_iff (by omega) (by rw [List.length_drop]; omega), hd]
  have hdl' : (udpL (setW (l.drop H) ((k - 12) / 2) (p16 port)) 6 (endC l k a port H)).length = (l.drop H).length := by rw [udpL_len, hlE]
  rw [hdl']
  unfold udpL
  rw [w6]
  by_cases hc : wordL (l.drop H) 6 = 0
  · rw [if_pos hc, w4, w6]
    simp [hc]
  rw [if_neg hc]
  have bd := wordL_bd (l.drop H) 6
  have okc : ∀ c ∈ endC l k a port H, okCh c := by
    intro c hc
    have q0 := wordL_bd l k
    have q1 := wordL_bd a.2 0
    have q2 := wordL_bd (setW l k (wordL a.2 0)) (k + 2)
    have q3 := wordL_bd a.2 2
    have q4 := wordL_bd (addressL l k a) (H + (k - 12) / 2)
    simp only [endC, addrAtC, List.cons_append, List.nil_append, List.mem_cons, List.not_mem_nil, or_false] at hc
    rcases hc with rfl | rfl | rfl
    · exact ⟨q0.1, q0.2, q1.1, q1.2⟩
    · exact ⟨q2.1, q2.2, q3.1, q3.2⟩
    · exact ⟨q4.1, q4.2, hp.1, hp.2⟩
  have hm := patchL_mod okc bd
  have hb := patchL_bd okc bd
  have hlost : lost (endC l k a port H) = wordL l k - wordL a.2 0 + (wordL l (k + 2) - wordL a.2 2) + (wordL (l.drop H) ((k - 12) / 2) - p16 port) := by
    have x1 : wordL (setW l k (wordL a.2 0)) (k + 2) = wordL l (k + 2) := wordL_setW_ne (by omega)
    have x2 : wordL (addressL l k a) (H + (k - 12) / 2) = wordL (l.drop H) ((k - 12) / 2) := by
      rw [← wordL_drop, addressL_drop (by omega) (by omega)]
    unfold lost endC addrAtC
    rw [x1, x2]
    simp
    omega
  have hu : 1 ≤ udpS (wordL (l.drop H) 6) (endC l k a port H) ∧ udpS (wordL (l.drop H) 6) (endC l k a port H) ≤ 65535 ∧ (udpS (wordL (l.drop H) 6) (endC l k a port H) - patchL (wordL (l.drop H) 6) (endC l k a port H)) % 65535 = 0 := by
    unfold udpS
    split <;> omega
  rw [hlost] at hm
  generalize patchL (wordL (l.drop H) 6) (endC l k a port H) = pp at *
  generalize udpS (wordL (l.drop H) 6) (endC l k a port H) = u at *
  have ws2 := wsum_setW 3 (setW (l.drop H) ((k - 12) / 2) (p16 port)) u (by omega) (by omega) hu.2.1
  rw [show 2 * 3 = 6 from rfl, w6, ws] at ws2
  have w64 : wordL (setW (setW (l.drop H) ((k - 12) / 2) (p16 port)) 6 u) 4 = wordL (l.drop H) 4 := by rw [wordL_setW_ne (by omega), w4]
  have w66 : wordL (setW (setW (l.drop H) ((k - 12) / 2) (p16 port)) 6 u) 6 = u := wordL_setW (by omega) (by omega) hu.2.1
  have hl6 : (setW (setW (l.drop H) ((k - 12) / 2) (p16 port)) 6 u).length = (l.drop H).length := by rw [setW_len, hlE]
  have hsum : (sum4 (endL l k a port H) (setW (setW (l.drop H) ((k - 12) / 2) (p16 port)) 6 u) - sum4 l (l.drop H)) % 65535 = 0 := by
    unfold sum4
    rw [hl6, ws2]
    rcases hk with rfl | rfl
    · rw [e0, show wordL (endL l 12 a port H) 14 = wordL a.2 2 from e2, o0 16 (by omega) (by omega) (by omega), o0 18 (by omega) (by omega) (by omega)]
      have hm := hm
      simp only [show 12 + 2 = 14 from rfl] at hm
      omega
    · rw [e0, show wordL (endL l 16 a port H) 18 = wordL a.2 2 from e2, o0 12 (by omega) (by omega) (by omega), o0 14 (by omega) (by omega) (by omega)]
      have hm := hm
      simp only [show 16 + 2 = 18 from rfl] at hm
      omega
  rw [w64, w66]
  have hu0 : ¬ u = 0 := by omega
  simp only [hu0, hc, false_or]
  constructor <;> rintro ⟨z1, z2, z3⟩ <;> exact ⟨z1, z2, by omega⟩
end Go.Proofs.YtofomopdaponbaaGreatDoor
/-
  What goes out or comes in is right: along outR and cameR. Plain: no program in sight.
-/
namespace Go.Proofs.YtofomopdaponbaaGreatDoor
open Go.RowKit
set_option linter.unusedVariables false
set_option linter.unusedSimpArgs false

structure Right (cf : Cf) (inn : Bool) (l out : List UInt8) : Prop where
  e0 : parseE out = 0
  len : out.length = l.length
  src : inn = false → (parseP out).src = cf.outside
  dst : inn = true → (parseP out).dst.2.getD 0 0 = 10
  diff : ∀ k, k < l.length → out.getD k 0 ≠ l.getD k 0 → differsB k (headL l) inn (parseP l).proto (parseP l).off = true
  valid : (parseP l).proto = 17 → (parseP l).off = 0 → (parseP l).more = false → validB l = validB out
theorem fromN_or (inn : Bool) : fromN inn = 12 ∨ fromN inn = 16 := by cases inn <;> simp [fromN]
theorem differs1 {k h : Nat} {inn : Bool} {proto off : Int} (h1 : diff1 k inn = true) : differsB k h inn proto off = true := if_pos h1
theorem parseP_of {l : List UInt8} (h : parseE l = 0) : parseP l = readP l (headL l) := if_pos h
theorem off_0 {l : List UInt8} (h : parseE l = 0) : 0 ≤ (parseP l).off := by
  rw [parseP_of h]
  show 0 ≤ wordL l 6 % 8192 * 8
  omega
theorem right_of {cf : Cf} {inn : Bool} {l out : List UInt8} {a : Ad} (h : parseE l = 0) (hK : Kept l out (fromN inn) a) (ha : Is4 a) (hs : inn = false → a = cf.outside) (hd : inn = true → a.2.getD 0 0 = 10)
    (hdiff : ∀ j, headL l ≤ j → j < l.length → out.getD j 0 ≠ l.getD j 0 → differsB j (headL l) inn (parseP l).proto (parseP l).off = true)
    (hv : (parseP l).proto = 17 → (parseP l).off = 0 → (datE out (out.drop (headL l)) = 0 ↔ datE l (l.drop (headL l)) = 0)) : Right cf inn l out := by
  have hf := facts_of h
  obtain ⟨hf', hh, -, -, -⟩ := hK.parse (fromN_or inn) hf
  have he := parse_of hf'
  have hPo := parseP_of he
  have hPl := parseP_of h
  have h20 := hf.h20
  have hlen := hf.len
  have hfr := fromN_or inn
  have had := hK.addr ha (by omega)
  refine ⟨he, hK.len, fun hi => ?_, fun hi => ?_, fun k hk hne => ?_, fun h17 h0 _ => ?_⟩
  · subst hi
    rw [hPo]
    exact had.trans (hs rfl)
  · subst hi
    rw [hPo]
    have had : (readP out (headL out)).dst = a := had
    rw [had]
    exact hd rfl
  · by_cases hkh : k < headL l
    · refine differs1 (Classical.byContradiction fun hn => hne (hK.keep k hkh ?_))
      simp [diff1] at hn
      omega
    · exact hdiff k (by omega) hk hne
  · have e1 : validB l = decide (datE l (l.drop (headL l)) = 0) := by
      unfold validB
      rw [decide_eq_true h, hPl]
      rfl
    have e2 : validB out = decide (datE out (out.drop (headL l)) = 0) := by
      unfold validB
      rw [decide_eq_true he, hPo, hh]
      rfl
    rw [e1, e2]
    exact (decide_eq_decide.2 (hv h17 h0)).symm
theorem right_addr {cf : Cf} {inn : Bool} {l : List UInt8} {a : Ad} (h : parseE l = 0) (ha : Is4 a) (hs : inn = false → a = cf.outside) (hd : inn = true → a.2.getD 0 0 = 10) (ho : (parseP l).off > 0) :
    Right cf inn l (addressL l (fromN inn) a) := by
  have hf := facts_of h
  have h20 := hf.h20
  have hfr := fromN_or inn
  exact right_of h (address_kept hfr hf) ha hs hd (fun j h1 h2 h3 => absurd (addressL_keep (by omega)) h3) (fun _ h0 => by omega)
theorem right_end {cf : Cf} {inn : Bool} {l : List UInt8} {a : Ad} {port : Int} (h : parseE l = 0) (ha : Is4 a) (hs : inn = false → a = cf.outside) (hd : inn = true → a.2.getD 0 0 = 10) (ho : ¬ (parseP l).off > 0) (h17 : (parseP l).proto = 17) (h8 : ¬ (parseP l).data.length < 8) :
    Right cf inn l (endL l (fromN inn) a port (headL l)) := by
  have hf := facts_of h
  have h20 := hf.h20
  have hfr := fromN_or inn
  have h00 := off_0 h
  have h0 : (parseP l).off = 0 := by omega
  rw [parseP_of h] at h8
  have h8 : ¬ (l.drop (headL l)).length < 8 := h8
  refine right_of h (end_kept hfr hf) ha hs hd (fun j h1 h2 h3 => ?_) (fun _ _ => end_valid hfr hf (by omega))
  rw [h17, h0]
  refine Classical.byContradiction fun hn => h3 ?_
  have hpn : portN inn (headL l) = headL l + (fromN inn - 12) / 2 := by cases inn <;> rfl
  simp [differsB, diff3, hpn] at hn
  have k1 : (end3L l (fromN inn) a port (headL l)).getD j 0 = l.getD j 0 := by
    unfold end3L
    rw [setW_getD (by omega) (by omega)]
    exact addressL_keep (by omega)
  unfold endL udpL
  split
  · exact k1
  · rw [setW_getD (by omega) (by omega)]
    exact k1
theorem right_quote {cf : Cf} {inn : Bool} {l : List UInt8} {a b : Ad} {q : Nat} {port : Int} (h : parseE l = 0) (ha : Is4 a) (hs : inn = false → a = cf.outside) (hd : inn = true → a.2.getD 0 0 = 10) (hq : quotedB (parseP l) = true) :
    Right cf inn l (quoteL (addressL l (fromN inn) a) q b port (headL l)) := by
  have hf := facts_of h
  have h20 := hf.h20
  have hfr := fromN_or inn
  have h1 : (parseP l).proto = 1 := by
    unfold quotedB quoted1 at hq
    simp at hq
    omega
  refine right_of h (quote_kept hfr hf) ha hs hd (fun j g1 g2 h3 => ?_) (fun h17 _ => by omega)
  rw [h1]
  refine Classical.byContradiction fun hn => h3 ?_
  simp [differsB, diff2] at hn
  rw [quote_keep (by omega) (by omega) (by omega)]
  exact addressL_keep (by omega)
theorem kind4 {a : Ad} (h : kindA a = 5) (h4 : a.1 = 4) (hl : a.2.length = 16) : Is4 a := by
  have hv : validA a = true := by
    unfold kindA at h
    split at h
    · assumption
    · exact absurd h (by decide)
  have hb : (a.2.drop 4).all (fun c => c == 0) = true := by
    unfold validA bitsA at hv
    rw [if_pos h4] at hv
    split at hv
    · assumption
    · exact absurd hv (by decide)
  refine ⟨h4, ?_, by rw [List.length_take]; omega⟩
  conv => lhs; rw [← List.take_append_drop 4 a.2]
  congr 1
  refine List.eq_replicate_iff.2 ⟨by rw [List.length_drop]; omega, fun c hc => ?_⟩
  exact beq_iff_eq.1 (List.all_eq_true.1 hb c hc)
/-- The network and the outside of the document's example. -/
def ExCf (c : Cf) : Prop := c.net = fourD 10 0 0 0 ∧ c.bits = 8 ∧ c.outside = fourD 192 0 2 1
theorem is4_four (a b c d : UInt8) : Is4 (fourD a b c d) := ⟨rfl, rfl, rfl⟩
theorem ExCf.inside {c : Cf} (h : ExCf c) {a : Ad} (ha : okAd a) (hi : insideA c a = true) : Is4 a ∧ a.2.getD 0 0 = 10 := by
  have h10 := inside10 h.1 h.2.1 ha hi
  refine ⟨kind4 ?_ h10.1 ha.2.2, h10.2⟩
  unfold insideA at hi
  simp at hi
  exact hi.1
/-- Whom fragments that come in are given to lies inside. -/
def InsIn (s : NatS) : Prop := ∀ x ∈ s.ins, insideA s.cf x.addr = true ∧ okAd x.addr
theorem InsIn.passes {s : NatS} (h : InsIn s) (now : Int) : InsIn (passesS s now).2 := by
  unfold passesS
  split
  · exact fun x hx => h x (List.mem_filter.1 hx).1
  · exact h
theorem noted_mem {parts now : Int} {z : List Nt} {k : Ky} {a : Ad} {x : Nt} (h : x ∈ notedL parts now z k a) : x ∈ z ∨ x.addr = a := by
  unfold notedL at h
  have key : x ∈ z.filter (fun x => !decide (x.key = k)) ++ [⟨k, a, now⟩] := by
    dsimp only at h
    split at h
    · exact List.mem_of_mem_drop h
    · exact h
  rcases List.mem_append.1 key with h1 | h1
  · exact .inl (List.mem_filter.1 h1).1
  · exact .inr (by rw [List.mem_singleton.1 h1])
theorem InsIn.out {s : NatS} (h : InsIn s) (p : Pk) (l : List UInt8) : InsIn (outR s p l).2.2 := by
  unfold outR
  split
  · exact h
  split
  · split
    · split <;> exact h
    · split
      · exact h
      · split <;> exact h
  · split
    · exact h
    · split <;> exact h
theorem InsIn.came {now : Int} {s : NatS} (hI : Inv now s) (h : InsIn s) (p : Pk) (l : List UInt8) : InsIn (cameR s p l).2.2 := by
  unfold cameR
  split
  · exact h
  split
  · split
    · split <;> exact h
    · split
      · exact h
      · split
        · exact h
        · rename_i m hm
          have hm := List.mem_of_find?_eq_some hm
          intro x hx
          dsimp only at hx ⊢
          split at hx
          · rcases noted_mem hx with h1 | h1
            · exact h x h1
            · rw [h1]
              exact ⟨(hI.each m hm).2.2.1, hI.ok.maps m hm⟩
          · exact h x hx
  · split
    · exact h
    · split <;> exact h
theorem out_fail {s : NatS} {p : Pk} {l : List UInt8} (h : (outR s p l).1 ≠ 0) : (outR s p l).2.1 = [] := by
  revert h
  unfold outR
  split
  · exact fun _ => rfl
  split
  · split
    · split
      · exact fun _ => rfl
      · exact fun h => absurd rfl h
    · split
      · exact fun _ => rfl
      · split
        · exact fun _ => rfl
        · exact fun h => absurd rfl h
  · split
    · exact fun _ => rfl
    · split
      · exact fun _ => rfl
      · exact fun h => absurd rfl h
theorem came_fail {s : NatS} {p : Pk} {l : List UInt8} (h : (cameR s p l).1 ≠ 0) : (cameR s p l).2.1 = [] := by
  revert h
  unfold cameR
  split
  · exact fun _ => rfl
  split
  · split
    · split
      · exact fun _ => rfl
      · exact fun h => absurd rfl h
    · split
      · exact fun _ => rfl
      · split
        · exact fun _ => rfl
        · exact fun h => absurd rfl h
  · split
    · exact fun _ => rfl
    · split
      · exact fun _ => rfl
      · exact fun h => absurd rfl h
theorem nope {e : Int} {x : List UInt8 × NatS} {C : Prop} (h : (e, x).1 = 0) (hn : e ≠ 0) : C := absurd h hn
theorem out_right {s : NatS} {l : List UInt8} (hx : ExCf s.cf) (he : parseE l = 0) (h0 : (outR s (parseP l) l).1 = 0) : Right s.cf false l (outR s (parseP l) l).2.1 := by
  have ha : Is4 s.cf.outside := by rw [hx.2.2]; exact is4_four _ _ _ _
  revert h0
  unfold outR
  split
  · exact fun h => nope h (by decide)
  split
  · rename_i h17
    split
    · rename_i hoff
      split
      · exact fun h => nope h (by decide)
      · exact fun _ => right_addr (inn := false) he ha (fun _ => rfl) (fun h => absurd h (by decide)) hoff
    · rename_i hoff
      split
      · exact fun h => nope h (by decide)
      · rename_i h8
        split
        · exact fun h => nope h (by decide)
        · exact fun _ => right_end (inn := false) he ha (fun _ => rfl) (fun h => absurd h (by decide)) hoff h17 h8
  · split
    · exact fun h => nope h (by decide)
    · rename_i hq
      split
      · exact fun h => nope h (by decide)
      · exact fun _ => right_quote (inn := false) he ha (fun _ => rfl) (fun h => absurd h (by decide)) (by simpa using hq)
theorem came_right {now : Int} {s : NatS} {l : List UInt8} (hI : Inv now s) (hi : InsIn s) (hx : ExCf s.cf) (he : parseE l = 0) (h0 : (cameR s (parseP l) l).1 = 0) :
    Right s.cf true l (cameR s (parseP l) l).2.1 ∧ (parseP l).dst = s.cf.outside := by
  revert h0
  unfold cameR
  split
  · exact fun h => nope h (by decide)
  rename_i hto
  have hto : (parseP l).dst = s.cf.outside := by
    simp at hto
    exact hto.1
  split
  · rename_i h17
    split
    · rename_i hoff
      split
      · exact fun h => nope h (by decide)
      · rename_i hr
        unfold recA at hr ⊢
        split at hr
        · rename_i x hf
          obtain ⟨g1, g2⟩ := hi x (List.mem_of_find?_eq_some hf)
          have hh := hx.inside g2 g1
          exact fun _ => ⟨right_addr (inn := true) he hh.1 (fun h => absurd h (by decide)) (fun _ => hh.2) hoff, hto⟩
        · exact absurd rfl hr
    · rename_i hoff
      split
      · exact fun h => nope h (by decide)
      · rename_i h8
        split
        · exact fun h => nope h (by decide)
        · rename_i m hm
          have hm := List.mem_of_find?_eq_some hm
          have hh := hx.inside (hI.ok.maps m hm) (hI.each m hm).2.2.1
          exact fun _ => ⟨right_end (inn := true) he hh.1 (fun h => absurd h (by decide)) (fun _ => hh.2) hoff h17 h8, hto⟩
  · split
    · exact fun h => nope h (by decide)
    · rename_i hq
      have hq : quotedB (parseP l) = true := by
        simp at hq
        exact hq.1
      split
      · exact fun h => nope h (by decide)
      · rename_i m hm
        have hm := List.mem_of_find?_eq_some hm
        have hh := hx.inside (hI.ok.maps m hm) (hI.each m hm).2.2.1
        exact fun _ => ⟨right_quote (inn := true) he hh.1 (fun h => absurd h (by decide)) (fun _ => hh.2) hq, hto⟩
end Go.Proofs.YtofomopdaponbaaGreatDoor
