/-
  A nat with one mapping: what goes out goes out as before, what comes in comes to its end. Plain: no program in sight.
-/
import Derived.Test.YtofomopdaponbaaGreatDoorZl
namespace Go.Proofs.YtofomopdaponbaaGreatDoor
open Go.RowKit
set_option linter.unusedVariables false
set_option linter.unusedSimpArgs false

def oneS (p t u : Int) (a : Ad) (sp : Int) : NatS := ⟨wideC p, t, [⟨a, sp, 4000, u⟩], [], []⟩
theorem inside_p (p : Int) (a : Ad) : insideA (wideC p) a = insideA (wideC 255) a := rfl
theorem outside_p (p : Int) (a : Ad) : outsideA (wideC p) a = outsideA (wideC 255) a := rfl
theorem wide_ge (p : Int) : 4000 ≤ (wideC p).last := by
  have := (and255i (x := p)).1
  show 4000 ≤ 4000 + andI .i64 p 255
  omega
theorem mapped_new {s : NatS} {p : Int} {a : Ad} {sp : Int} (hcf : s.cf = wideC p) (hm : s.maps = []) : mappedS s a sp = (((0 : Nat) : Int), [⟨a, sp, 4000, 0⟩]) := by
  have hn : ∃ n, (s.cf.last + 1 - s.cf.first).toNat = n + 1 := by
    rw [hcf]
    have := wide_ge p
    have e : (wideC p).first = 4000 := rfl
    exact ⟨((wideC p).last + 1 - (wideC p).first).toNat - 1, by omega⟩
  obtain ⟨n, hn⟩ := hn
  have e1 : s.cf.maps = 256 := by rw [hcf]; rfl
  have e2 : s.cf.first = 4000 := by rw [hcf]; rfl
  unfold mappedS
  rw [hn, hm, e1, e2, idx_none (fun x hx => by cases hx), if_neg (by decide), if_neg (by decide)]
  unfold freeFrom
  rw [idx_none (fun x hx => by cases hx), if_pos (by decide)]
  rfl
theorem mapped_one {s : NatS} {a : Ad} {sp u : Int} (hm : s.maps = [⟨a, sp, 4000, u⟩]) : mappedS s a sp = (((0 : Nat) : Int), [⟨a, sp, 4000, u⟩]) := by
  have e : idxI (endIs a sp) s.maps = ((0 : Nat) : Int) := by
    rw [hm]
    exact idx_here (by simp) (fun j hj => absurd hj (Nat.not_lt_zero _)) (by simp [endIs])
  unfold mappedS
  rw [e, if_pos (by decide), hm]
theorem outR_one {s : NatS} {p u : Int} {a b : Ad} {sp dp : Int} {data : List UInt8} {k : Nat} {l : List UInt8} (hcf : s.cf = wideC p) (hL : Laid a b sp dp data k l) (ha : insideA (wideC 255) a = true) (hb : outsideA (wideC 255) b = true) (hm : mappedS s a sp = (((0 : Nat) : Int), [⟨a, sp, 4000, u⟩])) :
    outR s (parseP l) l = (0, endL l 12 (fourD 192 0 2 1) 4000 20, ⟨s.cf, s.now, [⟨a, sp, 4000, s.now⟩], s.outs, s.ins⟩) := by
  have hoff : ¬ (parseP l).off > 0 := by rw [hL.off]; decide
  have h8 : ¬ (parseP l).data.length < 8 := by rw [hL.dat, hL.dlen]; omega
  have hin : insideA s.cf a = true := by rw [hcf]; exact ha
  have hou : outsideA s.cf b = true := by rw [hcf]; exact hb
  have ho : s.cf.outside = fourD 192 0 2 1 := by rw [hcf]; rfl
  have hw : wordL (parseP l).data 0 = sp := by rw [hL.dat]; exact hL.w0
  have hneg : ¬ ((0 : Nat) : Int) < 0 := by decide
  unfold outR
  rw [hL.src, hL.dst, hin, hou, if_neg (by decide), if_pos hL.proto, if_neg hoff, if_neg h8, hw, hm, if_neg hneg, hL.more, hL.head, ho]
  rfl
theorem passes_one {s : NatS} {n t u : Int} {a : Ad} {sp : Int} {p : Int} (hI : Inv n s) (h1 : n ≤ t) (h2 : t ≤ 1099511627776) (hcf : s.cf = wideC p) (hm : s.maps = [⟨a, sp, 4000, u⟩]) (hu : 0 ≤ u ∧ u ≤ t) (hl : t - u < 100) (ho : s.outs = []) (hi : s.ins = []) :
    (passesS s t).2 = oneS p t u a sp := by
  rw [passes_yes hI h1 h2, hm, hcf, ho, hi]
  have e : aged t u (wideC p).life = false := by
    unfold aged
    rw [wi_id (by omega) (by omega)]
    exact decide_eq_false (show ¬ t - u ≥ 100 by omega)
  have e2 : [(⟨a, sp, 4000, u⟩ : Nm)].filter (fun m => !aged t m.used (wideC p).life) = [⟨a, sp, 4000, u⟩] := by
    rw [List.filter_cons_of_pos (by rw [e]; rfl)]
    rfl
  rw [e2]
  rfl
theorem out_first {p : Int} {a b : Ad} {sp dp : Int} {data : List UInt8} {k : Nat} {l : List UInt8} (hL : Laid a b sp dp data k l) (ha : insideA (wideC 255) a = true) (hb : outsideA (wideC 255) b = true) :
    outS (newS (wideC p)) 0 l = (0, endL l 12 (fourD 192 0 2 1) 4000 20, oneS p 0 0 a sp) ∧ Inv 0 (oneS p 0 0 a sp) := by
  have hI := new_inv (wideC_ok p) (wideC_may p)
  have hl0 : (0 : Int) ≤ 0 := Int.le_refl _
  have hps : (passesS (newS (wideC p)) 0).2 = newS (wideC p) := by rw [passes_yes hI hl0 (by decide)]; rfl
  have e : outS (newS (wideC p)) 0 l = (0, endL l 12 (fourD 192 0 2 1) 4000 20, oneS p 0 0 a sp) := by
    rw [out_eq hI hl0 (by decide) hL.e0, hps, outR_one rfl hL ha hb (mapped_new rfl rfl)]
    rfl
  have h2 := hI.outS hl0 (by decide) l
  rw [e] at h2
  exact ⟨e, h2⟩
theorem out_again {p n t u : Int} {a b : Ad} {sp dp : Int} {data : List UInt8} {k : Nat} {l : List UInt8} (hI : Inv n (oneS p n u a sp)) (h1 : n ≤ t) (h2 : t ≤ 1000) (hu : 0 ≤ u ∧ u ≤ t) (hl : t - u < 100) (hL : Laid a b sp dp data k l) (ha : insideA (wideC 255) a = true) (hb : outsideA (wideC 255) b = true) :
    outS (oneS p n u a sp) t l = (0, endL l 12 (fourD 192 0 2 1) 4000 20, oneS p t t a sp) ∧ Inv t (oneS p t t a sp) := by
  have e : outS (oneS p n u a sp) t l = (0, endL l 12 (fourD 192 0 2 1) 4000 20, oneS p t t a sp) := by
    rw [out_eq hI h1 (by omega) hL.e0, passes_one hI h1 (by omega) rfl rfl hu hl rfl rfl, outR_one rfl hL ha hb (mapped_one rfl)]
    rfl
  have h3 := hI.outS h1 (by omega) l
  rw [e] at h3
  exact ⟨e, h3⟩
theorem came_one {p n t u : Int} {a b : Ad} {sp dp : Int} {data : List UInt8} {k : Nat} {l : List UInt8} (hI : Inv n (oneS p n u a sp)) (h1 : n ≤ t) (h2 : t ≤ 1000) (hu : 0 ≤ u ∧ u ≤ t) (hl : t - u < 100) (hL : Laid b (fourD 192 0 2 1) dp 4000 data k l) (hb : outsideA (wideC 255) b = true) :
    cameS (oneS p n u a sp) t l = (0, endL l 16 a sp 20, oneS p t u a sp) ∧ Inv t (oneS p t u a sp) := by
  have hp := (hI.passes h1 (show t ≤ 1099511627776 by omega)).2
  rw [passes_one hI h1 (by omega) rfl rfl hu hl rfl rfl] at hp
  have e : cameS (oneS p n u a sp) t l = (0, endL l 16 a sp 20, oneS p t u a sp) := by
    rw [came_eq hI h1 (by omega) hL.e0, passes_one hI h1 (by omega) rfl rfl hu hl rfl rfl]
    exact came_comes (m := ⟨a, sp, 4000, u⟩) hp (hL.goes _ 0) (by rw [hL.dat]; exact hL.w2) rfl hb (by simp [oneS]) rfl
  have h3 := hI.cameS h1 (show t ≤ 1099511627776 by omega) l
  rw [e] at h3
  exact ⟨e, h3⟩
end Go.Proofs.YtofomopdaponbaaGreatDoor
