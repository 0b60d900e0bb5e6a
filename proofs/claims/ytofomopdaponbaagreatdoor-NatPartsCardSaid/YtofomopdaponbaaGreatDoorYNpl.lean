/-
  What is known of a packet that was taken apart.
-/
import Derived.Test.YtofomopdaponbaaGreatDoorZe
import Derived.Test.YtofomopdaponbaaGreatDoorZf
namespace Go.Proofs.YtofomopdaponbaaGreatDoor
open Go.RowKit
set_option linter.unusedVariables false
set_option linter.unusedSimpArgs false

structure Parsed (l : List UInt8) : Prop where
  e : parseP l = readP l (headL l)
  right : rightP (parseP l) = true
  head : headP (parseP l) = (headL l : Int)
  h20 : 20 ≤ headL l
  h60 : headL l ≤ 60
  h4 : headL l % 4 = 0
  len : l.length = headL l + (parseP l).data.length
  max : l.length ≤ 65535
  key : okKy (kyP (parseP l))
theorem wordL_lt (l : List UInt8) (k : Nat) : 0 ≤ wordL l k ∧ wordL l k ≤ 65535 := wordL_bd l k
theorem parse_ok {l : List UInt8} (h : parseE l = 0) : Parsed l := by
  have hP : parseP l = readP l (headL l) := if_pos h
  unfold parseE at h
  split at h
  · exact absurd h (by decide)
  split at h
  · exact absurd h (by decide)
  split at h
  · exact absurd h (by decide)
  split at h
  · exact absurd h (by decide)
  split at h
  · exact absurd h (by decide)
  split at h
  · exact absurd h (by decide)
  split at h
  · exact absurd h (by decide)
  split at h
  · exact absurd h (by decide)
  split at h
  · exact absurd h (by decide)
  rename_i g1 g2 g3 g4 g5 g6 g7 g8 g9
  have hw := wordL_bd l 2
  have g5 : wordL l 2 = l.length := Classical.not_not.1 g5
  have h60 : headL l ≤ 60 := by unfold headL; omega
  have h4 : headL l % 4 = 0 := by unfold headL; omega
  have hd : (readP l (headL l)).data = l.drop (headL l) := rfl
  have ho : (readP l (headL l)).opts = (l.drop 20).take (headL l - 20) := rfl
  have hol : (readP l (headL l)).opts.length = headL l - 20 := by rw [ho, List.length_take, List.length_drop]; omega
  have hdl : (readP l (headL l)).data.length = l.length - headL l := by rw [hd, List.length_drop]
  have four : ∀ k, k + 4 ≤ l.length → fourA (4, (l.drop k).take 4 ++ z12) = true := fun k hk => by
    have h4 : ((l.drop k).take 4).length = 4 := by rw [List.length_take, List.length_drop]; omega
    have hdr : ((l.drop k).take 4 ++ z12).drop 4 = z12 := by
      rw [List.drop_append, h4, List.drop_of_length_le (by omega)]
      rfl
    unfold fourA validA bitsA
    simp only [hdr]
    rfl
  have b1 := u8_le (l.getD 1 0)
  have b8 := u8_le (l.getD 8 0)
  have b9 := u8_le (l.getD 9 0)
  have hwi : ∀ n : Nat, (n : Int) ≤ 255 → withinI (n : Int) 255 = true := fun n hn => by
    unfold withinI
    rw [decide_eq_true (by omega), decide_eq_true hn]
    rfl
  have hr : rightP (readP l (headL l)) = true := by
    have k8 : placedP (readP l (headL l)) = true := by simpa using g8
    have k9 : optsOk (readP l (headL l)).opts = true := by simpa using g9
    have i1 : decide ((readP l (headL l)).v = 4) = true := rfl
    have i2 : decide ((readP l (headL l)).flow = 0) = true := rfl
    have i3 : (!(readP l (headL l)).frag) = true := rfl
    have i4 : decide ((readP l (headL l)).id ≤ 65535) = true := decide_eq_true (wordL_bd l 4).2
    have i5 : fourA (readP l (headL l)).src = true := four 12 (by omega)
    have i6 : fourA (readP l (headL l)).dst = true := four 16 (by omega)
    have i7 : withinI (readP l (headL l)).tos 255 = true := hwi _ b1
    have i8 : withinI (readP l (headL l)).proto 255 = true := hwi _ b9
    have i9 : withinI (readP l (headL l)).ttl 255 = true := hwi _ b8
    have i10 : decide (20 + (readP l (headL l)).opts.length + (readP l (headL l)).data.length ≤ 65535) = true := decide_eq_true (by omega)
    unfold rightP
    rw [i1, i2, i3, i4, i5, i6, i7, i8, i9, i10, k8, k9]
    rfl
  have h16 : ∀ k, k + 4 ≤ l.length → ((l.drop k).take 4 ++ z12).length = 16 := fun k hk => by
    rw [List.length_append, List.length_take, List.length_drop]
    show min 4 (l.length - k) + 12 = 16
    omega
  refine ⟨hP, hP ▸ hr, ?_, by omega, h60, h4, ?_, by omega, ?_⟩
  · rw [hP]
    unfold headP
    rw [if_pos hr, hol]
    omega
  · rw [hP, hdl]
    omega
  · rw [hP]
    have hw4 := wordL_bd l 4
    exact ⟨⟨show (-9223372036854775808 : Int) ≤ 4 by decide, show (4 : Int) ≤ 9223372036854775807 by decide⟩, okAd4 (h16 12 (by omega)), okAd4 (h16 16 (by omega)),
      ⟨show (-9223372036854775808 : Int) ≤ ((l.getD 9 0).toNat : Int) by omega, show ((l.getD 9 0).toNat : Int) ≤ 9223372036854775807 by omega⟩, hw4.1, show wordL l 4 ≤ 4294967295 by omega⟩
end Go.Proofs.YtofomopdaponbaaGreatDoor
