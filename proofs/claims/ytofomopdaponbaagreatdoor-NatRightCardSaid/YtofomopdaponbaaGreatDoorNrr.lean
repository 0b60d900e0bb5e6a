/-
  What goes out or comes in is right: along outR and cameR. Plain: no program in sight.
-/
import Derived.Test.YtofomopdaponbaaGreatDoorNrt
import Derived.Test.YtofomopdaponbaaGreatDoorNsp
namespace Go.Proofs.YtofomopdaponbaaGreatDoor
open Go.RowKit
set_option linter.unusedVariables false
set_option linter.unusedSimpArgs false

structure Right (cf : Cf) (inn : Bool) (l out : List UInt8) : Prop where
  e0 : parseE out = 0
  len : out.length = l.length
  src : inn = false → (parseP out).src = cf.outside
  dst : inn = true → (parseP out).dst.2.getD 0 0 = 10
  diff : ∀ k, k < l.length → out.getD k 0 ≠ l.getD k 0 → differsB k (headL l) inn (parseP l).proto (parseP l).off = true
  valid : (parseP l).proto = 17 → (parseP l).off = 0 → (parseP l).more = false → validB l = validB out
theorem fromN_or (inn : Bool) : fromN inn = 12 ∨ fromN inn = 16 := by cases inn <;> simp [fromN]
theorem differs1 {k h : Nat} {inn : Bool} {proto off : Int} (h1 : diff1 k inn = true) : differsB k h inn proto off = true := if_pos h1
theorem parseP_of {l : List UInt8} (h : parseE l = 0) : parseP l = readP l (headL l) := if_pos h
theorem off_0 {l : List UInt8} (h : parseE l = 0) : 0 ≤ (parseP l).off := by
  rw [parseP_of h]
  show 0 ≤ wordL l 6 % 8192 * 8
  omega
theorem right_of {cf : Cf} {inn : Bool} {l out : List UInt8} {a : Ad} (h : parseE l = 0) (hK : Kept l out (fromN inn) a) (ha : Is4 a) (hs : inn = false → a = cf.outside) (hd : inn = true → a.2.getD 0 0 = 10)
    (hdiff : ∀ j, headL l ≤ j → j < l.length → out.getD j 0 ≠ l.getD j 0 → differsB j (headL l) inn (parseP l).proto (parseP l).off = true)
    (hv : (parseP l).proto = 17 → (parseP l).off = 0 → (datE out (out.drop (headL l)) = 0 ↔ datE l (l.drop (headL l)) = 0)) : Right cf inn l out := by
  have hf := facts_of h
  obtain ⟨hf', hh, -, -, -⟩ := hK.parse (fromN_or inn) hf
  have he := parse_of hf'
  have hPo := parseP_of he
  have hPl := parseP_of h
  have h20 := hf.h20
  have hlen := hf.len
  have hfr := fromN_or inn
  have had := hK.addr ha (by omega)
  refine ⟨he, hK.len, fun hi => ?_, fun hi => ?_, fun k hk hne => ?_, fun h17 h0 _ => ?_⟩
  · subst hi
    rw [hPo]
    exact had.trans (hs rfl)
  · subst hi
    rw [hPo]
    have had : (readP out (headL out)).dst = a := had
    rw [had]
    exact hd rfl
  · by_cases hkh : k < headL l
    · refine differs1 (Classical.byContradiction fun hn => hne (hK.keep k hkh ?_))
      simp [diff1] at hn
      omega
    · exact hdiff k (by omega) hk hne
  · have e1 : validB l = decide (datE l (l.drop (headL l)) = 0) := by
      unfold validB
      rw [decide_eq_true h, hPl]
      rfl
    have e2 : validB out = decide (datE out (out.drop (headL l)) = 0) := by
      unfold validB
      rw [decide_eq_true he, hPo, hh]
      rfl
    rw [e1, e2]
    exact (decide_eq_decide.2 (hv h17 h0)).symm
theorem right_addr {cf : Cf} {inn : Bool} {l : List UInt8} {a : Ad} (h : parseE l = 0) (ha : Is4 a) (hs : inn = false → a = cf.outside) (hd : inn = true → a.2.getD 0 0 = 10) (ho : (parseP l).off > 0) :
    Right cf inn l (addressL l (fromN inn) a) := by
  have hf := facts_of h
  have h20 := hf.h20
  have hfr := fromN_or inn
  exact right_of h (address_kept hfr hf) ha hs hd (fun j h1 h2 h3 => absurd (addressL_keep (by omega)) h3) (fun _ h0 => by omega)
theorem right_end {cf : Cf} {inn : Bool} {l : List UInt8} {a : Ad} {port : Int} (h : parseE l = 0) (ha : Is4 a) (hs : inn = false → a = cf.outside) (hd : inn = true → a.2.getD 0 0 = 10) (ho : ¬ (parseP l).off > 0) (h17 : (parseP l).proto = 17) (h8 : ¬ (parseP l).data.length < 8) :
    Right cf inn l (endL l (fromN inn) a port (headL l)) := by
  have hf := facts_of h
  have h20 := hf.h20
  have hfr := fromN_or inn
  have h00 := off_0 h
  have h0 : (parseP l).off = 0 := by omega
  rw [parseP_of h] at h8
  have h8 : ¬ (l.drop (headL l)).length < 8 := h8
  refine right_of h (end_kept hfr hf) ha hs hd (fun j h1 h2 h3 => ?_) (fun _ _ => end_valid hfr hf (by omega))
  rw [h17, h0]
  refine Classical.byContradiction fun hn => h3 ?_
  have hpn : portN inn (headL l) = headL l + (fromN inn - 12) / 2 := by cases inn <;> rfl
  simp [differsB, diff3, hpn] at hn
  have k1 : (end3L l (fromN inn) a port (headL l)).getD j 0 = l.getD j 0 := by
    unfold end3L
    rw [setW_getD (by omega) (by omega)]
    exact addressL_keep (by omega)
  unfold endL udpL
  split
  · exact k1
  · rw [setW_getD (by omega) (by omega)]
    exact k1
theorem right_quote {cf : Cf} {inn : Bool} {l : List UInt8} {a b : Ad} {q : Nat} {port : Int} (h : parseE l = 0) (ha : Is4 a) (hs : inn = false → a = cf.outside) (hd : inn = true → a.2.getD 0 0 = 10) (hq : quotedB (parseP l) = true) :
    Right cf inn l (quoteL (addressL l (fromN inn) a) q b port (headL l)) := by
  have hf := facts_of h
  have h20 := hf.h20
  have hfr := fromN_or inn
  have h1 : (parseP l).proto = 1 := by
    unfold quotedB quoted1 at hq
    simp at hq
    omega
  refine right_of h (quote_kept hfr hf) ha hs hd (fun j g1 g2 h3 => ?_) (fun h17 _ => by omega)
  rw [h1]
  refine Classical.byContradiction fun hn => h3 ?_
  simp [differsB, diff2] at hn
  rw [quote_keep (by omega) (by omega) (by omega)]
  exact addressL_keep (by omega)
theorem kind4 {a : Ad} (h : kindA a = 5) (h4 : a.1 = 4) (hl : a.2.length = 16) : Is4 a := by
  have hv : validA a = true := by
    unfold kindA at h
    split at h
    · assumption
    · exact absurd h (by decide)
  have hb : (a.2.drop 4).all (fun c => c == 0) = true := by
    unfold validA bitsA at hv
    rw [if_pos h4] at hv
    split at hv
    · assumption
    · exact absurd hv (by decide)
  refine ⟨h4, ?_, by rw [List.length_take]; omega⟩
  conv => lhs; rw [← List.take_append_drop 4 a.2]
  congr 1
  refine List.eq_replicate_iff.2 ⟨by rw [List.length_drop]; omega, fun c hc => ?_⟩
  exact beq_iff_eq.1 (List.all_eq_true.1 hb c hc)
/-- The network and the outside of the document's example. -/
def ExCf (c : Cf) : Prop := c.net = fourD 10 0 0 0 ∧ c.bits = 8 ∧ c.outside = fourD 192 0 2 1
theorem is4_four (a b c d : UInt8) : Is4 (fourD a b c d) := ⟨rfl, rfl, rfl⟩
theorem ExCf.inside {c : Cf} (h : ExCf c) {a : Ad} (ha : okAd a) (hi : insideA c a = true) : Is4 a ∧ a.2.getD 0 0 = 10 := by
  have h10 := inside10 h.1 h.2.1 ha hi
  refine ⟨kind4 ?_ h10.1 ha.2.2, h10.2⟩
  unfold insideA at hi
  simp at hi
  exact hi.1
/-- Whom fragments that come in are given to lies inside. -/
def InsIn (s : NatS) : Prop := ∀ x ∈ s.ins, insideA s.cf x.addr = true ∧ okAd x.addr
theorem InsIn.passes {s : NatS} (h : InsIn s) (now : Int) : InsIn (passesS s now).2 := by
  unfold passesS
  split
  · exact fun x hx => h x (List.mem_filter.1 hx).1
  · exact h
theorem noted_mem {parts now : Int} {z : List Nt} {k : Ky} {a : Ad} {x : Nt} (h : x ∈ notedL parts now z k a) : x ∈ z ∨ x.addr = a := by
  unfold notedL at h
  have key : x ∈ z.filter (fun x => !decide (x.key = k)) ++ [⟨k, a, now⟩] := by
    dsimp only at h
    split at h
    · exact List.mem_of_mem_drop h
    · exact h
  rcases List.mem_append.1 key with h1 | h1
  · exact .inl (List.mem_filter.1 h1).1
  · exact .inr (by rw [List.mem_singleton.1 h1])
theorem InsIn.out {s : NatS} (h : InsIn s) (p : Pk) (l : List UInt8) : InsIn (outR s p l).2.2 := by
  unfold outR
  split
  · exact h
  split
  · split
    · split <;> exact h
    · split
      · exact h
      · split <;> exact h
  · split
    · exact h
    · split <;> exact h
theorem InsIn.came {now : Int} {s : NatS} (hI : Inv now s) (h : InsIn s) (p : Pk) (l : List UInt8) : InsIn (cameR s p l).2.2 := by
  unfold cameR
  split
  · exact h
  split
  · split
    · split <;> exact h
    · split
      · exact h
      · split
        · exact h
        · rename_i m hm
          have hm := List.mem_of_find?_eq_some hm
          intro x hx
          dsimp only at hx ⊢
          split at hx
          · rcases noted_mem hx with h1 | h1
            · exact h x h1
            · rw [h1]
              exact ⟨(hI.each m hm).2.2.1, hI.ok.maps m hm⟩
          · exact h x hx
  · split
    · exact h
    · split <;> exact h
theorem out_fail {s : NatS} {p : Pk} {l : List UInt8} (h : (outR s p l).1 ≠ 0) : (outR s p l).2.1 = [] := by
  revert h
  unfold outR
  split
  · exact fun _ => rfl
  split
  · split
    · split
      · exact fun _ => rfl
      · exact fun h => absurd rfl h
    · split
      · exact fun _ => rfl
      · split
        · exact fun _ => rfl
        · exact fun h => absurd rfl h
  · split
    · exact fun _ => rfl
    · split
      · exact fun _ => rfl
      · exact fun h => absurd rfl h
theorem came_fail {s : NatS} {p : Pk} {l : List UInt8} (h : (cameR s p l).1 ≠ 0) : (cameR s p l).2.1 = [] := by
  revert h
  unfold cameR
  split
  · exact fun _ => rfl
  split
  · split
    · split
      · exact fun _ => rfl
      · exact fun h => absurd rfl h
    · split
      · exact fun _ => rfl
      · split
        · exact fun _ => rfl
        · exact fun h => absurd rfl h
  · split
    · exact fun _ => rfl
    · split
      · exact fun _ => rfl
      · exact fun h => absurd rfl h
theorem nope {e : Int} {x : List UInt8 × NatS} {C : Prop} (h : (e, x).1 = 0) (hn : e ≠ 0) : C := absurd h hn
theorem out_right {s : NatS} {l : List UInt8} (hx : ExCf s.cf) (he : parseE l = 0) (h0 : (outR s (parseP l) l).1 = 0) : Right s.cf false l (outR s (parseP l) l).2.1 := by
  have ha : Is4 s.cf.outside := by rw [hx.2.2]; exact is4_four _ _ _ _
  revert h0
  unfold outR
  split
  · exact fun h => nope h (by decide)
  split
  · rename_i h17
    split
    · rename_i hoff
      split
      · exact fun h => nope h (by decide)
      · exact fun _ => right_addr (inn := false) he ha (fun _ => rfl) (fun h => absurd h (by decide)) hoff
    · rename_i hoff
      split
      · exact fun h => nope h (by decide)
      · rename_i h8
        split
        · exact fun h => nope h (by decide)
        · exact fun _ => right_end (inn := false) he ha (fun _ => rfl) (fun h => absurd h (by decide)) hoff h17 h8
  · split
    · exact fun h => nope h (by decide)
    · rename_i hq
      split
      · exact fun h => nope h (by decide)
      · exact fun _ => right_quote (inn := false) he ha (fun _ => rfl) (fun h => absurd h (by decide)) (by simpa using hq)
theorem came_right {now : Int} {s : NatS} {l : List UInt8} (hI : Inv now s) (hi : InsIn s) (hx : ExCf s.cf) (he : parseE l = 0) (h0 : (cameR s (parseP l) l).1 = 0) :
    Right s.cf true l (cameR s (parseP l) l).2.1 ∧ (parseP l).dst = s.cf.outside := by
  revert h0
  unfold cameR
  split
  · exact fun h => nope h (by decide)
  rename_i hto
  have hto : (parseP l).dst = s.cf.outside := by
    simp at hto
    exact hto.1
  split
  · rename_i h17
    split
    · rename_i hoff
      split
      · exact fun h => nope h (by decide)
      · rename_i hr
        unfold recA at hr ⊢
        split at hr
        · rename_i x hf
          obtain ⟨g1, g2⟩ := hi x (List.mem_of_find?_eq_some hf)
          have hh := hx.inside g2 g1
          exact fun _ => ⟨right_addr (inn := true) he hh.1 (fun h => absurd h (by decide)) (fun _ => hh.2) hoff, hto⟩
        · exact absurd rfl hr
    · rename_i hoff
      split
      · exact fun h => nope h (by decide)
      · rename_i h8
        split
        · exact fun h => nope h (by decide)
        · rename_i m hm
          have hm := List.mem_of_find?_eq_some hm
          have hh := hx.inside (hI.ok.maps m hm) (hI.each m hm).2.2.1
          exact fun _ => ⟨right_end (inn := true) he hh.1 (fun h => absurd h (by decide)) (fun _ => hh.2) hoff h17 h8, hto⟩
  · split
    · exact fun h => nope h (by decide)
    · rename_i hq
      have hq : quotedB (parseP l) = true := by
        simp at hq
        exact hq.1
      split
      · exact fun h => nope h (by decide)
      · rename_i m hm
        have hm := List.mem_of_find?_eq_some hm
        have hh := hx.inside (hI.ok.maps m hm) (hI.each m hm).2.2.1
        exact fun _ => ⟨right_quote (inn := true) he hh.1 (fun h => absurd h (by decide)) (fun _ => hh.2) hq, hto⟩
end Go.Proofs.YtofomopdaponbaaGreatDoor
