/-
  A packet that is written over as the nat does it is still a right packet. Plain: no program in sight.
-/
import Derived.Test.YtofomopdaponbaaGreatDoorNck
namespace Go.Proofs.YtofomopdaponbaaGreatDoor
open Go.RowKit
set_option linter.unusedVariables false
set_option linter.unusedSimpArgs false

theorem getD_ext {l l' : List UInt8} (hl : l'.length = l.length) (h : ∀ j, j < l.length → l'.getD j 0 = l.getD j 0) : l' = l := by
  apply List.ext_getElem? 
  intro j
  by_cases hj : j < l.length
  · rw [getD_some hj, getD_some (by omega), h j hj]
  · rw [List.getElem?_eq_none (by omega), List.getElem?_eq_none (by omega)]
theorem getD_drop {l : List UInt8} {k j : Nat} : (l.drop k).getD j 0 = l.getD (k + j) 0 := by
  simp [List.getD_eq_getElem?_getD, List.getElem?_drop]
theorem getD_take {l : List UInt8} {k j : Nat} (h : j < k) : (l.take k).getD j 0 = l.getD j 0 := by
  simp [List.getD_eq_getElem?_getD, List.getElem?_take_of_lt h]
theorem cut_ext {l l' : List UInt8} {k n : Nat} (hl : l'.length = l.length) (h : ∀ j, k ≤ j → j < k + n → l'.getD j 0 = l.getD j 0) : (l'.drop k).take n = (l.drop k).take n := by
  refine getD_ext (by simp [hl]) (fun j hj => ?_)
  simp only [List.length_take, List.length_drop] at hj
  rw [getD_take (by omega), getD_take (by omega), getD_drop, getD_drop]
  exact h _ (by omega) (by omega)
/-- Only what lies from h on may differ. -/
structure Beyond (l l' : List UInt8) (h : Nat) : Prop where
  len : l'.length = l.length
  keep : ∀ j, j < h → l'.getD j 0 = l.getD j 0
theorem Beyond.refl (l : List UInt8) (h : Nat) : Beyond l l h := ⟨rfl, fun _ _ => rfl⟩
theorem Beyond.trans {a b c : List UInt8} {h : Nat} (x : Beyond a b h) (y : Beyond b c h) : Beyond a c h := ⟨y.len.trans x.len, fun j hj => (y.keep j hj).trans (x.keep j hj)⟩
theorem Beyond.setW {l : List UInt8} {k h : Nat} {v : Int} (hk : h ≤ k) : Beyond l (setW l k v) h := ⟨setW_len _ _ _, fun j hj => setW_getD (by omega) (by omega)⟩
theorem Beyond.mono {l l' : List UInt8} {h h' : Nat} (x : Beyond l l' h) (hh : h' ≤ h) : Beyond l l' h' := ⟨x.len, fun j hj => x.keep j (by omega)⟩
theorem Beyond.take {l l' : List UInt8} {h : Nat} (x : Beyond l l' h) : l'.take h = l.take h := by
  have := cut_ext (k := 0) (n := h) x.len (fun j _ hj => x.keep j (by omega))
  simpa using this
theorem Beyond.udpL {l : List UInt8} {k h : Nat} {chs : List (Int × Int)} (hk : h ≤ k) : Beyond l (udpL l k chs) h := by
  unfold Go.Proofs.YtofomopdaponbaaGreatDoor.udpL
  split
  · exact .refl _ _
  · exact .setW hk
theorem end_beyond {l : List UInt8} {k head : Nat} {a : Ad} {port : Int} : Beyond (addressL l k a) (endL l k a port head) head := by
  unfold endL end3L
  exact (Beyond.setW (by omega)).trans (Beyond.udpL (by omega))
theorem addrAtL_beyond {l : List UInt8} {k h : Nat} {a : Ad} (hk : h ≤ k) : Beyond l (addrAtL l k a) h := by
  unfold addrAtL
  exact (Beyond.setW hk).trans (Beyond.setW (by omega))
/-- Up to its quote, an error changes in its sum alone. -/
theorem quote_keep {l : List UInt8} {k head j : Nat} {a : Ad} {port : Int} (hj : j < head + 8) (h2 : j ≠ head + 2) (h3 : j ≠ head + 3) : (quoteL l k a port head).getD j 0 = l.getD j 0 := by
  have h1 : Beyond l (q1L l k a head) (head + 8) := addrAtL_beyond (by omega)
  have h12 : Beyond (q1L l k a head) (q2L l k a head) (head + 8) := Beyond.setW (by omega)
  have h23 : Beyond (q2L l k a head) (q3L l k a port head) (head + 8) := Beyond.setW (by unfold udpAt; omega)
  have h34 : Beyond (q3L l k a port head) (q4L l k a port head) (head + 8) := by
    unfold q4L
    split
    · exact Beyond.udpL (by unfold udpAt; omega)
    · exact .refl _ _
  have h := (((h1.trans h12).trans h23).trans h34).keep j hj
  unfold quoteL
  rw [setW_getD (by omega) (by omega), h]
theorem quote_beyond {l : List UInt8} {k head : Nat} {a : Ad} {port : Int} : Beyond l (quoteL l k a port head) head := ⟨quoteL_len _ _ _ _ _, fun j hj => quote_keep (by omega) (by omega) (by omega)⟩
/-- What a packet keeps whose address at k becomes a. -/
structure Kept (l l' : List UInt8) (k : Nat) (a : Ad) : Prop where
  len : l'.length = l.length
  sum : checkedL (l'.take (headL l)) = true
  keep : ∀ j, j < headL l → j ≠ 10 ∧ j ≠ 11 ∧ ¬ (k ≤ j ∧ j < k + 4) → l'.getD j 0 = l.getD j 0
  at_ : ∀ i, i < 4 → l'.getD (k + i) 0 = a.2.getD i 0
structure Facts (l : List UInt8) : Prop where
  h20 : 20 ≤ headL l
  h60 : headL l ≤ 60
  len : headL l ≤ l.length
  v4 : (l.getD 0 0).toNat / 16 = 4
  size : wordL l 2 = l.length
  sum : checkedL (l.take (headL l)) = true
  flag : ¬ andI .u16 (flagF l) 32768 ≠ 0
  placed : placedP (readP l (headL l)) = true
  opts : optsOk (readP l (headL l)).opts = true
theorem facts_of {l : List UInt8} (h : parseE l = 0) : Facts l := by
  unfold parseE at h
  split at h
  · exact absurd h (by decide)
  split at h
  · exact absurd h (by decide)
  split at h
  · exact absurd h (by decide)
  split at h
  · exact absurd h (by decide)
  split at h
  · exact absurd h (by decide)
  split at h
  · exact absurd h (by decide)
  split at h
  · exact absurd h (by decide)
  split at h
  · exact absurd h (by decide)
  split at h
  · exact absurd h (by decide)
  rename_i g1 g2 g3 g4 g5 g6 g7 g8 g9
  exact ⟨by omega, by unfold headL; omega, by omega, Classical.not_not.1 g2, Classical.not_not.1 g5, by simpa using g6, g7, by simpa using g8, by simpa using g9⟩
theorem parse_of {l : List UInt8} (h : Facts l) : parseE l = 0 := by
  have h20 := h.h20
  have hlen := h.len
  unfold parseE
  rw [if_neg (by omega), if_neg (by rw [h.v4]; exact fun e => e rfl), if_neg (by omega), if_neg (by omega), if_neg (by rw [h.size]; exact fun e => e rfl), if_neg (by rw [h.sum]; decide), if_neg h.flag, if_neg (by rw [h.placed]; decide), if_neg (by rw [h.opts]; decide)]
/-- Such a packet is right, and has the same fields but for its address. -/
theorem Kept.parse {l l' : List UInt8} {k : Nat} {a : Ad} (hK : Kept l l' k a) (hk : k = 12 ∨ k = 16) (h : Facts l) :
    Facts l' ∧ headL l' = headL l ∧ (readP l' (headL l)).proto = (readP l (headL l)).proto ∧ (readP l' (headL l)).off = (readP l (headL l)).off ∧ (readP l' (headL l)).more = (readP l (headL l)).more := by
  have h20 := h.h20
  have hb : ∀ j, j < 10 → l'.getD j 0 = l.getD j 0 := fun j hj => hK.keep j (by omega) (by omega)
  have hw : ∀ j, j + 1 < 10 → wordL l' j = wordL l j := fun j hj => by
    unfold wordL
    rw [hb j (by omega), hb (j + 1) hj]
  have hh : headL l' = headL l := by
    unfold headL
    rw [hb 0 (by omega)]
  have hfl : flagF l' = flagF l := hw 6 (by omega)
  have e1 : (readP l' (headL l)).off = (readP l (headL l)).off := by
    show flagF l' % 8192 * 8 = flagF l % 8192 * 8
    rw [hfl]
  have e2 : (readP l' (headL l)).more = (readP l (headL l)).more := by
    show (andI .u16 (flagF l') 8192 != 0) = (andI .u16 (flagF l) 8192 != 0)
    rw [hfl]
  have e3 : (readP l' (headL l)).proto = (readP l (headL l)).proto := by
    show ((l'.getD 9 0).toNat : Int) = ((l.getD 9 0).toNat : Int)
    rw [hb 9 (by omega)]
  have e4 : (readP l' (headL l)).data.length = (readP l (headL l)).data.length := by
    show (l'.drop (headL l)).length = (l.drop (headL l)).length
    rw [List.length_drop, List.length_drop, hK.len]
  have e5 : (readP l' (headL l)).opts = (readP l (headL l)).opts := by
    show (l'.drop 20).take (headL l - 20) = (l.drop 20).take (headL l - 20)
    exact cut_ext hK.len (fun j h1 h2 => hK.keep j (by omega) (by omega))
  refine ⟨⟨by rw [hh]; exact h20, by rw [hh]; exact h.h60, by rw [hh, hK.len]; exact h.len, by rw [hb 0 (by omega)]; exact h.v4, by rw [hw 2 (by omega), hK.len]; exact h.size, by rw [hh]; exact hK.sum, by rw [hfl]; exact h.flag, ?_, by rw [hh, e5]; exact h.opts⟩, hh, e3, e1, e2⟩
  have := h.placed
  unfold placedP at this ⊢
  rw [hh, e1, e2, e4]
  exact this
theorem address_kept {l : List UInt8} {k : Nat} {a : Ad} (hk : k = 12 ∨ k = 16) (h : Facts l) : Kept l (addressL l k a) k a := by
  have h20 := h.h20
  have hlen := h.len
  have hlt : (l.take (headL l)).length = headL l := by rw [List.length_take]; omega
  have h0 : 0 < ((l.take (headL l)).getD 0 0).toNat := by
    rw [getD_take (by omega)]
    have := h.v4
    omega
  have hs := (checked_iff (by omega) h0).1 h.sum
  have hn := address_sum (l := l.take (headL l)) (k := k) (a := a) (by omega) hk hs.1
  refine ⟨addressL_len _ _ _, ?_, fun j _ hj => addressL_keep hj, fun i hi => addressL_at hk (by omega) hi⟩
  rw [addressL_take (by omega) (by omega)]
  refine (checked_iff (by rw [addressL_len]; omega) ?_).2 ⟨hn.1, by omega⟩
  rw [addressL_keep (by omega)]
  exact h0
theorem Kept.beyond {l m l' : List UInt8} {k : Nat} {a : Ad} (hK : Kept l m k a) (h20 : k + 4 ≤ headL l) (hB : Beyond m l' (headL l)) : Kept l l' k a :=
  ⟨hB.len.trans hK.len, by rw [hB.take]; exact hK.sum, fun j hj hne => (hB.keep j hj).trans (hK.keep j hj hne), fun i hi => (hB.keep _ (by omega)).trans (hK.at_ i hi)⟩
theorem end_kept {l : List UInt8} {k : Nat} {a : Ad} {port : Int} (hk : k = 12 ∨ k = 16) (h : Facts l) : Kept l (endL l k a port (headL l)) k a :=
  (address_kept hk h).beyond (by have := h.h20; omega) end_beyond
theorem quote_kept {l : List UInt8} {k q : Nat} {a b : Ad} {port : Int} (hk : k = 12 ∨ k = 16) (h : Facts l) : Kept l (quoteL (addressL l k a) q b port (headL l)) k a :=
  (address_kept hk h).beyond (by have := h.h20; omega) quote_beyond
/-- An address of version 4, as its four bytes. -/
def Is4 (a : Ad) : Prop := a.1 = 4 ∧ a.2 = a.2.take 4 ++ z12 ∧ (a.2.take 4).length = 4
theorem Kept.addr {l l' : List UInt8} {k : Nat} {a : Ad} (hK : Kept l l' k a) (ha : Is4 a) (hl : k + 4 ≤ l.length) : ((4, (l'.drop k).take 4 ++ z12) : Ad) = a := by
  obtain ⟨v, x⟩ := a
  obtain ⟨h1, h2, h3⟩ := ha
  have h1 : v = 4 := h1
  subst h1
  have e : (l'.drop k).take 4 = x.take 4 := by
    refine getD_ext ?_ (fun j hj => ?_)
    · rw [List.length_take, List.length_drop, hK.len]
      have h3 : (x.take 4).length = 4 := h3
      rw [h3]
      omega
    · have h3 : (x.take 4).length = 4 := h3
      rw [getD_take (by omega), getD_drop, getD_take (by omega)]
      exact hK.at_ j (by omega)
  rw [e]
  exact congrArg (Prod.mk 4) h2.symm
end Go.Proofs.YtofomopdaponbaaGreatDoor
