/-
  Checksums that are patched stay right. Plain: no program in sight.
-/
import Derived.Test.YtofomopdaponbaaGreatDoorZi
namespace Go.Proofs.YtofomopdaponbaaGreatDoor
open Go.RowKit
set_option linter.unusedVariables false
set_option linter.unusedSimpArgs false

theorem foldI_mod {n : Int} (h : 0 ≤ n) : foldI n % 65535 = n % 65535 := by
  unfold foldI
  split <;> omega
theorem foldI_pos {n : Int} (h : 0 < n) : 1 ≤ foldI n ∧ foldI n ≤ 65535 := by
  unfold foldI
  split <;> omega
theorem patchI_mod {s was now : Int} (hs : 0 ≤ s ∧ s ≤ 65535) (hw : 0 ≤ was ∧ was ≤ 65535) (hn : 0 ≤ now ∧ now ≤ 65535) : (patchI s was now - (s + was - now)) % 65535 = 0 := by
  have h1 := foldI_bd (n := 65535 - s + (65535 - was)) (by omega)
  have h2 := foldI_mod (n := 65535 - s + (65535 - was)) (by omega)
  have h3 := foldI_mod (n := foldI (65535 - s + (65535 - was)) + now) (by omega)
  unfold patchI addI
  omega
theorem patchI_lt {s was now : Int} (hs : 0 ≤ s ∧ s < 65535) (hw : 0 ≤ was ∧ was ≤ 65535) (hn : 0 ≤ now ∧ now ≤ 65535) : patchI s was now < 65535 := by
  have h1 := foldI_pos (n := 65535 - s + (65535 - was)) (by omega)
  have h3 := foldI_pos (n := foldI (65535 - s + (65535 - was)) + now) (by omega)
  unfold patchI addI
  omega
/-- What words lost, less what they won. -/
def lost (chs : List (Int × Int)) : Int := (chs.map (fun c => c.1 - c.2)).sum
theorem patchL_mod : ∀ {chs : List (Int × Int)} {s : Int}, (∀ c ∈ chs, okCh c) → 0 ≤ s ∧ s ≤ 65535 → (patchL s chs - (s + lost chs)) % 65535 = 0
  | [], s, _, _ => by simp [patchL, lost]
  | c :: chs, s, h, hs => by
    have hc := h c List.mem_cons_self
    have h1 := patchI_mod (s := s) (was := c.1) (now := c.2) hs ⟨hc.1, hc.2.1⟩ ⟨hc.2.2.1, hc.2.2.2⟩
    have hb := patchI_bd (s := s) (was := c.1) (now := c.2) hs.2 hc.2.1 hc.2.2.1
    have h2 := patchL_mod (chs := chs) (s := patchI s c.1 c.2) (fun x hx => h x (List.mem_cons_of_mem _ hx)) hb
    have e1 : patchL s (c :: chs) = patchL (patchI s c.1 c.2) chs := rfl
    have e2 : lost (c :: chs) = c.1 - c.2 + lost chs := by simp [lost]
    rw [e1, e2]
    omega
theorem patchL_lt : ∀ {chs : List (Int × Int)} {s : Int}, (∀ c ∈ chs, okCh c) → 0 ≤ s ∧ s < 65535 → patchL s chs < 65535
  | [], s, _, hs => hs.2
  | c :: chs, s, h, hs => by
    have hc := h c List.mem_cons_self
    have h1 := patchI_lt (s := s) (was := c.1) (now := c.2) hs ⟨hc.1, hc.2.1⟩ ⟨hc.2.2.1, hc.2.2.2⟩
    have hb := patchI_bd (s := s) (was := c.1) (now := c.2) (by omega) hc.2.1 hc.2.2.1
    exact patchL_lt (chs := chs) (s := patchI s c.1 c.2) (fun x hx => h x (List.mem_cons_of_mem _ hx)) ⟨hb.1, h1⟩
/-- A word of a list, written over, and the plain sum. -/
theorem wsum_setW : ∀ (j : Nat) (l : List UInt8) (v : Int), 2 * j + 1 < l.length → 0 ≤ v → v ≤ 65535 → wsum (setW l (2 * j) v) = wsum l - wordL l (2 * j) + v
  | 0, l, v, h, h0, h1 => by
    obtain ⟨a, b, r, rfl⟩ := two_of (l := l) (by omega)
    have e1 := hiB_eq h0 h1
    have e2 := loB_eq h0
    show wsum (hiB v :: loB v :: r) = wsum (a :: b :: r) - ((a.toNat : Int) * 256 + (b.toNat : Int)) + v
    simp only [wsum]
    omega
  | j + 1, l, v, h, h0, h1 => by
    obtain ⟨a, b, r, rfl⟩ := two_of (l := l) (by omega)
    simp only [List.length_cons] at h
    have ih := wsum_setW j r v (by omega) h0 h1
    have e : setW (a :: b :: r) (2 * (j + 1)) v = a :: b :: setW r (2 * j) v := by
      unfold setW
      rw [show 2 * (j + 1) = 2 * j + 1 + 1 by omega]
      rfl
    have e2 : wordL (a :: b :: r) (2 * (j + 1)) = wordL r (2 * j) := by
      unfold wordL
      rw [show 2 * (j + 1) = 2 * j + 1 + 1 by omega]
      rfl
    rw [e, e2]
    simp only [wsum, ih]
    omega
theorem wsum_pos {l : List UInt8} (h : 0 < (l.getD 0 0).toNat) : 0 < wsum l := by
  match l, h with
  | [], h => simp at h
  | [a], h =>
    simp only [wsum]
    have : 0 < a.toNat := h
    omega
  | a :: b :: r, h =>
    have := (wsum_le r).1
    have : 0 < a.toNat := h
    simp only [wsum]
    omega
theorem zeroed_setW (l : List UInt8) : zeroed l = setW l 10 0 := rfl
theorem wordL_take {l : List UInt8} {k h : Nat} (hk : k + 1 < h) : wordL (l.take h) k = wordL l k := by
  unfold wordL
  simp only [List.getD_eq_getElem?_getD, List.getElem?_take_of_lt (show k < h by omega), List.getElem?_take_of_lt hk]
theorem setW_take {l : List UInt8} {k h : Nat} {v : Int} : (setW l k v).take h = setW (l.take h) k v := by
  unfold setW
  rw [List.take_set, List.take_set]
theorem setW_take_ge {l : List UInt8} {k h : Nat} {v : Int} (hk : h ≤ k) : (setW l k v).take h = l.take h := by
  unfold setW
  rw [List.take_set_of_le (by omega), List.take_set_of_le hk]
theorem setW_drop {l : List UInt8} {k h : Nat} {v : Int} : (setW l (h + k) v).drop h = setW (l.drop h) k v := by
  unfold setW
  rw [List.drop_set, List.drop_set, if_neg (by omega), if_neg (by omega)]
  congr 1
  · congr 1
    omega
  · omega
theorem setW_drop_lt {l : List UInt8} {k h : Nat} {v : Int} (hk : k + 1 < h) : (setW l k v).drop h = l.drop h := by
  unfold setW
  rw [List.drop_set_of_lt hk, List.drop_set_of_lt (by omega)]
theorem wordL_setW_ne {l : List UInt8} {k j : Nat} {v : Int} (h1 : j + 1 < k ∨ k + 1 < j) : wordL (setW l k v) j = wordL l j := by
  unfold wordL
  rw [setW_getD (by omega) (by omega), setW_getD (by omega) (by omega)]
theorem setW_getD0 {l : List UInt8} {k : Nat} {v : Int} (hk : k + 1 < l.length) : (setW l k v).getD k 0 = hiB v := by
  unfold setW
  simp only [List.getD_eq_getElem?_getD]
  rw [List.getElem?_set_ne (by omega), List.getElem?_set_self (by omega)]
  rfl
theorem setW_getD1 {l : List UInt8} {k : Nat} {v : Int} (hk : k + 1 < l.length) : (setW l k v).getD (k + 1) 0 = loB v := by
  unfold setW
  simp only [List.getD_eq_getElem?_getD]
  rw [List.getElem?_set_self (by rw [List.length_set]; omega)]
  rfl
theorem wordL_setW {l : List UInt8} {k : Nat} {v : Int} (hk : k + 1 < l.length) (h0 : 0 ≤ v) (h1 : v ≤ 65535) : wordL (setW l k v) k = v := by
  unfold wordL
  rw [setW_getD0 hk, setW_getD1 hk, hiB_eq h0 h1, loB_eq h0]
  omega
theorem hiB_word (l : List UInt8) (k : Nat) : hiB (wordL l k) = l.getD k 0 := by
  have := wordL_bd l k
  apply u8_inj.1
  rw [hiB_eq this.1 this.2]
  have := u8_le (l.getD (k + 1) 0)
  unfold wordL
  omega
theorem loB_word (l : List UInt8) (k : Nat) : loB (wordL l k) = l.getD (k + 1) 0 := by
  have := wordL_bd l k
  apply u8_inj.1
  rw [loB_eq this.1]
  have := u8_le (l.getD (k + 1) 0)
  unfold wordL
  omega
/-- A head's checksum, in numbers. -/
theorem checked_iff {l : List UInt8} (hl : 12 ≤ l.length) (h0 : 0 < (l.getD 0 0).toNat) : checkedL l = true ↔ wordL l 10 < 65535 ∧ wsum l % 65535 = 0 := by
  have hz : wsum (zeroed l) = wsum l - wordL l 10 := by
    have := wsum_setW 5 l 0 (by omega) (by omega) (by omega)
    rw [show 2 * 5 = 10 from rfl] at this
    rw [zeroed_setW, this]
    omega
  have hp : 0 < wsum (zeroed l) := wsum_pos (by rw [zeroed_setW, setW_getD (by omega) (by omega)]; exact h0)
  have hf := foldI_pos hp
  have hm := foldI_mod (n := wsum (zeroed l)) (by omega)
  have hw := wordL_bd l 10
  have e : ofL (zeroed l) = 65535 - foldI (wsum (zeroed l)) := rfl
  have hb0 := u8_le (l.getD 10 0)
  have hb1 := u8_le (l.getD 11 0)
  have key : checkedL l = true ↔ wordL l 10 = ofL (zeroed l) := by
    unfold checkedL
    simp only [Bool.and_eq_true, decide_eq_true_eq]
    have ew : wordL l 10 = ((l.getD 10 0).toNat : Int) * 256 + ((l.getD 11 0).toNat : Int) := rfl
    rw [ew]
    omega
  rw [key, e]
  omega
/-- An address of a head, with the sum behind it: the plain sum keeps its residue. -/
theorem address_sum {l : List UInt8} {k : Nat} {a : Ad} (hl : 20 ≤ l.length) (hk : k = 12 ∨ k = 16) (hs : wordL l 10 < 65535) :
    wordL (addressL l k a) 10 < 65535 ∧ (wsum (addressL l k a) - wsum l) % 65535 = 0 := by
  have b0 := wordL_bd a.2 0
  have b2 := wordL_bd a.2 2
  have c10 := wordL_bd l 10
  have hok := addrAtC_ok l k a
  have e10 : wordL (addrAtL l k a) 10 = wordL l 10 := by
    unfold addrAtL
    rw [wordL_setW_ne (by omega), wordL_setW_ne (by omega)]
  have s1 : wsum (addrAtL l k a) = wsum l - wordL l k + wordL a.2 0 - wordL l (k + 2) + wordL a.2 2 := by
    unfold addrAtL
    have h2 := wsum_setW ((k + 2) / 2) (setW l k (wordL a.2 0)) (wordL a.2 2) (by rw [setW_len]; omega) b2.1 b2.2
    rw [show 2 * ((k + 2) / 2) = k + 2 by omega] at h2
    have h1 := wsum_setW (k / 2) l (wordL a.2 0) (by omega) b0.1 b0.2
    rw [show 2 * (k / 2) = k by omega] at h1
    rw [h2, h1, wordL_setW_ne (by omega)]
  have hl' : lost (addrAtC l k a) = wordL l k - wordL a.2 0 + (wordL l (k + 2) - wordL a.2 2) := by
    unfold addrAtC lost
    rw [wordL_setW_ne (by omega)]
    simp
  have hp := patchL_mod (chs := addrAtC l k a) (s := wordL (addrAtL l k a) 10) hok (wordL_bd _ _)
  have hlt := patchL_lt (chs := addrAtC l k a) (s := wordL (addrAtL l k a) 10) hok ⟨(wordL_bd _ _).1, by rw [e10]; exact hs⟩
  have hbd := patchL_bd (chs := addrAtC l k a) hok (s := wordL (addrAtL l k a) 10) (wordL_bd _ _)
  have h3 := wsum_setW 5 (addrAtL l k a) (patchL (wordL (addrAtL l k a) 10) (addrAtC l k a)) (by rw [addrAtL_len]; omega) hbd.1 hbd.2
  unfold addressL
  refine ⟨?_, ?_⟩
  · rw [wordL_setW (by rw [addrAtL_len]; omega) hbd.1 hbd.2]
    exact hlt
  · rw [show 2 * 5 = 10 from rfl] at h3
    rw [h3, s1]
    rw [hl'] at hp
    omega
theorem addrAtL_take {l : List UInt8} {k h : Nat} {a : Ad} : (addrAtL l k a).take h = addrAtL (l.take h) k a := by
  unfold addrAtL
  rw [setW_take, setW_take]
theorem addressL_take {l : List UInt8} {k h : Nat} {a : Ad} (hk : k + 3 < h) (h11 : 11 < h) : (addressL l k a).take h = addressL (l.take h) k a := by
  unfold addressL
  rw [setW_take, addrAtL_take]
  have e1 : addrAtC (l.take h) k a = addrAtC l k a := by
    unfold addrAtC
    rw [wordL_take (by omega), ← setW_take, wordL_take (by omega)]
  have e2 : wordL (addrAtL l k a) 10 = wordL (addrAtL (l.take h) k a) 10 := by
    rw [← addrAtL_take, wordL_take (by omega)]
  rw [e1, e2]
theorem addressL_drop {l : List UInt8} {k h : Nat} {a : Ad} (hk : k + 3 < h) (h11 : 11 < h) : (addressL l k a).drop h = l.drop h := by
  unfold addressL addrAtL
  rw [setW_drop_lt (by omega), setW_drop_lt (by omega), setW_drop_lt (by omega)]
theorem addressL_keep {l : List UInt8} {k j : Nat} {a : Ad} (h : j ≠ 10 ∧ j ≠ 11 ∧ ¬ (k ≤ j ∧ j < k + 4)) : (addressL l k a).getD j 0 = l.getD j 0 := by
  unfold addressL addrAtL
  rw [setW_getD (by omega) (by omega), setW_getD (by omega) (by omega), setW_getD (by omega) (by omega)]
theorem addressL_at {l : List UInt8} {k i : Nat} {a : Ad} (hk : k = 12 ∨ k = 16) (hl : k + 4 ≤ l.length) (hi : i < 4) : (addressL l k a).getD (k + i) 0 = a.2.getD i 0 := by
  unfold addressL addrAtL
  rw [setW_getD (by omega) (by omega)]
  rcases (show i = 0 ∨ i = 1 ∨ i = 2 ∨ i = 3 by omega) with rfl | rfl | rfl | rfl
  · rw [setW_getD (by omega) (by omega), Nat.add_zero, setW_getD0 (by omega), hiB_word]
  · rw [setW_getD (by omega) (by omega), setW_getD1 (by omega), loB_word]
  · rw [setW_getD0 (by rw [setW_len]; omega), hiB_word]
  · rw [show k + 3 = k + 2 + 1 by omega, setW_getD1 (by rw [setW_len]; omega), loB_word]
end Go.Proofs.YtofomopdaponbaaGreatDoor
/-
  A packet that is written over as the nat does it is still a right packet. Plain: no program in sight.
-/
namespace Go.Proofs.YtofomopdaponbaaGreatDoor
open Go.RowKit
set_option linter.unusedVariables false
set_option linter.unusedSimpArgs false

theorem getD_ext {l l' : List UInt8} (hl : l'.length = l.length) (h : ∀ j, j < l.length → l'.getD j 0 = l.getD j 0) : l' = l := by
  apply List.ext_getElem? 
  intro j
  by_cases hj : j < l.length
  · rw [getD_some hj, getD_some (by omega), h j hj]
  · rw [List.getElem?_eq_none (by omega), List.getElem?_eq_none (by omega)]
theorem getD_drop {l : List UInt8} {k j : Nat} : (l.drop k).getD j 0 = l.getD (k + j) 0 := by
  simp [List.getD_eq_getElem?_getD, List.getElem?_drop]
theorem getD_take {l : List UInt8} {k j : Nat} (h : j < k) : (l.take k).getD j 0 = l.getD j 0 := by
  simp [List.getD_eq_getElem?_getD, List.getElem?_take_of_lt h]
theorem cut_ext {l l' : List UInt8} {k n : Nat} (hl : l'.length = l.length) (h : ∀ j, k ≤ j → j < k + n → l'.getD j 0 = l.getD j 0) : (l'.drop k).take n = (l.drop k).take n := by
  refine getD_ext (by simp [hl]) (fun j hj => ?_)
  simp only [List.length_take, List.length_drop] at hj
  rw [getD_take (by omega), getD_take (by omega), getD_drop, getD_drop]
  exact h _ (by omega) (by omega)
/-- Only what lies from h on may differ. -/
structure Beyond (l l' : List UInt8) (h : Nat) : Prop where
  len : l'.length = l.length
  keep : ∀ j, j < h → l'.getD j 0 = l.getD j 0
theorem Beyond.refl (l : List UInt8) (h : Nat) : Beyond l l h := ⟨rfl, fun _ _ => rfl⟩
theorem Beyond.trans {a b c : List UInt8} {h : Nat} (x : Beyond a b h) (y : Beyond b c h) : Beyond a c h := ⟨y.len.trans x.len, fun j hj => (y.keep j hj).trans (x.keep j hj)⟩
theorem Beyond.setW {l : List UInt8} {k h : Nat} {v : Int} (hk : h ≤ k) : Beyond l (setW l k v) h := ⟨setW_len _ _ _, fun j hj => setW_getD (by omega) (by omega)⟩
theorem Beyond.mono {l l' : List UInt8} {h h' : Nat} (x : Beyond l l' h) (hh : h' ≤ h) : Beyond l l' h' := ⟨x.len, fun j hj => x.keep j (by omega)⟩
theorem Beyond.take {l l' : List UInt8} {h : Nat} (x : Beyond l l' h) : l'.take h = l.take h := by
  have := cut_ext (k := 0) (n := h) x.len (fun j _ hj => x.keep j (by omega))
  simpa using this
theorem Beyond.udpL {l : List UInt8} {k h : Nat} {chs : List (Int × Int)} (hk : h ≤ k) : Beyond l (udpL l k chs) h := by
  unfold Go.Proofs.YtofomopdaponbaaGreatDoor.udpL
  split
  · exact .refl _ _
  · exact .setW hk
theorem end_beyond {l : List UInt8} {k head : Nat} {a : Ad} {port : Int} : Beyond (addressL l k a) (endL l k a port head) head := by
  unfold endL end3L
  exact (Beyond.setW (by omega)).trans (Beyond.udpL (by omega))
theorem addrAtL_beyond {l : List UInt8} {k h : Nat} {a : Ad} (hk : h ≤ k) : Beyond l (addrAtL l k a) h := by
  unfold addrAtL
  exact (Beyond.setW hk).trans (Beyond.setW (by omega))
/-- Up to its quote, an error changes in its sum alone. -/
theorem quote_keep {l : List UInt8} {k head j : Nat} {a : Ad} {port : Int} (hj : j < head + 8) (h2 : j ≠ head + 2) (h3 : j ≠ head + 3) : (quoteL l k a port head).getD j 0 = l.getD j 0 := by
  have h1 : Beyond l (q1L l k a head) (head + 8) := addrAtL_beyond (by omega)
  have h12 : Beyond (q1L l k a head) (q2L l k a head) (head + 8) := Beyond.setW (by omega)
  have h23 : Beyond (q2L l k a head) (q3L l k a port head) (head + 8) := Beyond.setW (by unfold udpAt; omega)
  have h34 : Beyond (q3L l k a port head) (q4L l k a port head) (head + 8) := by
    unfold q4L
    split
    · exact Beyond.udpL (by unfold udpAt; omega)
    · exact .refl _ _
  have h := (((h1.trans h12).trans h23).trans h34).keep j hj
  unfold quoteL
  rw [setW_getD (by omega) (by omega), h]
theorem quote_beyond {l : List UInt8} {k head : Nat} {a : Ad} {port : Int} : Beyond l (quoteL l k a port head) head := ⟨quoteL_len _ _ _ _ _, fun j hj => quote_keep (by omega) (by omega) (by omega)⟩
/-- What a packet keeps whose address at k becomes a. -/
structure Kept (l l' : List UInt8) (k : Nat) (a : Ad) : Prop where
  len : l'.length = l.length
  sum : checkedL (l'.take (headL l)) = true
  keep : ∀ j, j < headL l → j ≠ 10 ∧ j ≠ 11 ∧ ¬ (k ≤ j ∧ j < k + 4) → l'.getD j 0 = l.getD j 0
  at_ : ∀ i, i < 4 → l'.getD (k + i) 0 = a.2.getD i 0
structure Facts (l : List UInt8) : Prop where
  h20 : 20 ≤ headL l
  h60 : headL l ≤ 60
  len : headL l ≤ l.length
  v4 : (l.getD 0 0).toNat / 16 = 4
  size : wordL l 2 = l.length
  sum : checkedL (l.take (headL l)) = true
  flag : ¬ andI .u16 (flagF l) 32768 ≠ 0
  placed : placedP (readP l (headL l)) = true
  opts : optsOk (readP l (headL l)).opts = true
theorem facts_of {l : List UInt8} (h : parseE l = 0) : Facts l := by
  unfold parseE at h
  split at h
  · exact absurd h (by decide)
  split at h
  · exact absurd h (by decide)
  split at h
  · exact absurd h (by decide)
  split at h
  · exact absurd h (by decide)
  split at h
  · exact absurd h (by decide)
  split at h
  · exact absurd h (by decide)
  split at h
  · exact absurd h (by decide)
  split at h
  · exact absurd h (by decide)
  split at h
  · exact absurd h (by decide)
  rename_i g1 g2 g3 g4 g5 g6 g7 g8 g9
  exact ⟨by omega, by unfold headL; omega, by omega, Classical.not_not.1 g2, Classical.not_not.1 g5, by simpa using g6, g7, by simpa using g8, by simpa using g9⟩
theorem parse_of {l : List UInt8} (h : Facts l) : parseE l = 0 := by
  have h20 := h.h20
  have hlen := h.len
  unfold parseE
  rw [if_neg (by omega), if_neg (by rw [h.v4]; exact fun e => e rfl), if_neg (by omega), if_neg (by omega), if_neg (by rw [h.size]; exact fun e => e rfl), if_neg (by rw [h.sum]; decide), if_neg h.flag, if_neg (by rw [h.placed]; decide), if_neg (by rw [h.opts]; decide)]
/-- Such a packet is right, and has the same fields but for its address. -/
theorem Kept.parse {l l' : List UInt8} {k : Nat} {a : Ad} (hK : Kept l l' k a) (hk : k = 12 ∨ k = 16) (h : Facts l) :
    Facts l' ∧ headL l' = headL l ∧ (readP l' (headL l)).proto = (readP l (headL l)).proto ∧ (readP l' (headL l)).off = (readP l (headL l)).off ∧ (readP l' (headL l)).more = (readP l (headL l)).more := by
  have h20 := h.h20
  have hb : ∀ j, j < 10 → l'.getD j 0 = l.getD j 0 := fun j hj => hK.keep j (by omega) (by omega)
  have hw : ∀ j, j + 1 < 10 → wordL l' j = wordL l j := fun j hj => by
    unfold wordL
    rw [hb j (by omega), hb (j + 1) hj]
  have hh : headL l' = headL l := by
    unfold headL
    rw [hb 0 (by omega)]
  have hfl : flagF l' = flagF l := hw 6 (by omega)
  have e1 : (readP l' (headL l)).off = (readP l (headL l)).off := by
    show flagF l' % 8192 * 8 = flagF l % 8192 * 8
    rw [hfl]
  have e2 : (readP l' (headL l)).more = (readP l (headL l)).more := by
    show (andI .u16 (flagF l') 8192 != 0) = (andI .u16 (flagF l) 8192 != 0)
    rw [hfl]
  have e3 : (readP l' (headL l)).proto = (readP l (headL l)).proto := by
    show ((l'.getD 9 0).toNat : Int) = ((l.getD 9 0).toNat : Int)
    rw [hb 9 (by omega)]
  have e4 : (readP l' (headL l)).data.length = (readP l (headL l)).data.length := by
    show (l'.drop (headL l)).length = (l.drop (headL l)).length
    rw [List.length_drop, List.length_drop, hK.len]
  have e5 : (readP l' (headL l)).opts = (readP l (headL l)).opts := by
    show (l'.drop 20).take (headL l - 20) = (l.drop 20).take (headL l - 20)
    exact cut_ext hK.len (fun j h1 h2 => hK.keep j (by omega) (by omega))
  refine ⟨⟨by rw [hh]; exact h20, by rw [hh]; exact h.h60, by rw [hh, hK.len]; exact h.len, by rw [hb 0 (by omega)]; exact h.v4, by rw [hw 2 (by omega), hK.len]; exact h.size, by rw [hh]; exact hK.sum, by rw [hfl]; exact h.flag, ?_, by rw [hh, e5]; exact h.opts⟩, hh, e3, e1, e2⟩
  have := h.placed
  unfold placedP at this ⊢
  rw [hh, e1, e2, e4]
  exact this
theorem address_kept {l : List UInt8} {k : Nat} {a : Ad} (hk : k = 12 ∨ k = 16) (h : Facts l) : Kept l (addressL l k a) k a := by
  have h20 := h.h20
  have hlen := h.len
  have hlt : (l.take (headL l)).length = headL l := by rw [List.length_take]; omega
  have h0 : 0 < ((l.take (headL l)).getD 0 0).toNat := by
    rw [getD_take (by omega)]
    have := h.v4
    omega
  have hs := (checked_iff (by omega) h0).1 h.sum
  have hn := address_sum (l := l.take (headL l)) (k := k) (a := a) (by omega) hk hs.1
  refine ⟨addressL_len _ _ _, ?_, fun j _ hj => addressL_keep hj, fun i hi => addressL_at hk (by omega) hi⟩
  rw [addressL_take (by omega) (by omega)]
  refine (checked_iff (by rw [addressL_len]; omega) ?_).2 ⟨hn.1, by omega⟩
  rw [addressL_keep (by omega)]
  exact h0
theorem Kept.beyond {l m l' : List UInt8} {k : Nat} {a : Ad} (hK : Kept l m k a) (h20 : k + 4 ≤ headL l) (hB : Beyond m l' (headL l)) : Kept l l' k a :=
  ⟨hB.len.trans hK.len, by rw [hB.take]; exact hK.sum, fun j hj hne => (hB.keep j hj).trans (hK.keep j hj hne), fun i hi => (hB.keep _ (by omega)).trans (hK.at_ i hi)⟩
theorem end_kept {l : List UInt8} {k : Nat} {a : Ad} {port : Int} (hk : k = 12 ∨ k = 16) (h : Facts l) : Kept l (endL l k a port (headL l)) k a :=
  (address_kept hk h).beyond (by have := h.h20; omega) end_beyond
theorem quote_kept {l : List UInt8} {k q : Nat} {a b : Ad} {port : Int} (hk : k = 12 ∨ k = 16) (h : Facts l) : Kept l (quoteL (addressL l k a) q b port (headL l)) k a :=
  (address_kept hk h).beyond (by have := h.h20; omega) quote_beyond
/-- An address of version 4, as its four bytes. -/
def Is4 (a : Ad) : Prop := a.1 = 4 ∧ a.2 = a.2.take 4 ++ z12 ∧ (a.2.take 4).length = 4
theorem Kept.addr {l l' : List UInt8} {k : Nat} {a : Ad} (hK : Kept l l' k a) (ha : Is4 a) (hl : k + 4 ≤ l.length) : ((4, (l'.drop k).take 4 ++ z12) : Ad) = a := by
  obtain ⟨v, x⟩ := a
  obtain ⟨h1, h2, h3⟩ := ha
  have h1 : v = 4 := h1
  subst h1
  have e : (l'.drop k).take 4 = x.take 4 := by
    refine getD_ext ?_ (fun j hj => ?_)
    · rw [List.length_take, List.length_drop, hK.len]
      have h3 : (x.take 4).length = 4 := h3
      rw [h3]
      omega
    · have h3 : (x.take 4).length = 4 := h3
      rw [getD_take (by omega), getD_drop, getD_take (by omega)]
      exact hK.at_ j (by omega)
  rw [e]
  exact congrArg (Prod.mk 4) h2.symm
end Go.Proofs.YtofomopdaponbaaGreatDoor
