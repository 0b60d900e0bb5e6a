/-
  The sums (package sum): fold, Part, Of, Add, Patch.
-/
import Derived.Test.YtofomopdaponbaaGreatDoorSl
import Derived.Test.YtofomopdaponbaaGreatDoorProg
namespace Go.Proofs.YtofomopdaponbaaGreatDoor
open Go.RowKit
set_option linter.unusedVariables false

/-- A plain sum, brought to its one's complement sum. -/
def foldI (n : Int) : Int := if n = 0 then 0 else (n - 1) % 65535 + 1
theorem foldI_bd {n : Int} (h : 0 ≤ n) : 0 ≤ foldI n ∧ foldI n ≤ 65535 := by unfold foldI; split <;> omega

set_option maxRecDepth 100000 in
theorem fold_does (w : World) (a : Int) (h0 : 0 ≤ a) (h1 : a < 18446744073709551616) : Does Tryz.prog 218 [.int .u64 a] w (fun v w' => v = .int .u16 (foldI a) ∧ w = w') := by
  refine Does.enter (fn := Tryz.f218) (by kernel_rfl) rfl (by kernel_rfl) (by kernel_rfl) ?_
  conv => whnf
  refine VLoop.inv (α := Int) [(0,1),(3,12)] (fun n => [(0, .int .u64 n)]) (fun n w' => w = w' ∧ 0 ≤ n ∧ n < 18446744073709551616 ∧ foldI n = foldI a) (fun n => n.toNat) a (by kernel_rfl) ⟨rfl, trivial⟩ ⟨rfl, h0, h1, rfl⟩ ?_
  rintro n wr j ⟨rfl, hn0, hn1, hf⟩
  conv => whnf
  refine VIf.dec (fun hb => ?_) (fun hb => ?_)
  · have e1 : n / pw 16 .u64 = n / 65536 := rfl
    have e2 := and_u64_65535 hn0 (by omega)
    have e3 : IntKind.u64.wrap (n / pw 16 .u64 + andI .u64 n 65535) = n / 65536 + n % 65536 := by rw [e1, e2, wr64]; omega
    conv => whnf
    refine ⟨_, ⟨rfl, trivial⟩, ⟨rfl, ?_, ?_, ?_⟩, ?_⟩
    · rw [e3]; omega
    · rw [e3]; omega
    · rw [e3, ← hf]; unfold foldI; rw [if_neg (by omega), if_neg (by omega)]; omega
    · rw [e3]; omega
  · conv => whnf
    refine ⟨?_, rfl⟩
    rw [← hf]
    have : IntKind.u16.wrap n = foldI n := by rw [wr16]; unfold foldI; split <;> omega
    exact congrArg (Value.int IntKind.u16) this

/-- The plain sum of bytes, two by two. -/
def wsum : List UInt8 → Int
  | [] => 0
  | [a] => (a.toNat : Int) * 256
  | a :: b :: r => (a.toNat : Int) * 256 + b.toNat + wsum r
theorem wsum_le : ∀ l : List UInt8, 0 ≤ wsum l ∧ wsum l ≤ 65535 * l.length
  | [] => by simp [wsum]
  | [a] => by have := u8_le a; simp [wsum]; omega
  | a :: b :: r => by
    have := u8_le a; have := u8_le b
    have := wsum_le r
    simp only [wsum, List.length_cons]
    omega
theorem two_of {l : List UInt8} (h : 2 ≤ l.length) : ∃ x y r, l = x :: y :: r := by
  match l, h with
  | x :: y :: r, _ => exact ⟨x, y, r, rfl⟩
  | [], h => simp at h
  | [_], h => simp at h
/-- The one's complement sum of bytes. -/
def partL (l : List UInt8) : Int := foldI (wsum l)
theorem partL_bd (l : List UInt8) : 0 ≤ partL l ∧ partL l ≤ 65535 := foldI_bd (wsum_le l).1

set_option maxRecDepth 100000 in
theorem part_does {w : World} {G : List Nat} {A : Option Addr} {n c : Nat} {l : List UInt8} (h : Bs w G A n l) (hn : n ≤ c) (hc : n ≤ 140737488355328) :
    Does Tryz.prog 159 [.slice A n c] w (fun v w' => v = .int .u16 (partL l) ∧ Only [] w w') := by
  have hl := h.len
  have hle := wsum_le l
  refine Does.enter (fn := Tryz.f159) (by kernel_rfl) rfl (by kernel_rfl) (by kernel_rfl) ?_
  conv => whnf
  refine VLoop.inv (α := Option Addr × Nat × Nat × List UInt8 × Int) [(0,1),(3,21)] (fun | (A, n, c, l, acc) => [(0, .slice A n c), (3, .int .u64 acc)])
    (fun | (A, n, c, l1, acc) => fun w' => Only [] w w' ∧ Bs w' G A n l1 ∧ n ≤ c ∧ 0 ≤ acc ∧ acc + wsum l1 = wsum l) (fun | (A, n, c, l, acc) => n)
    (A, n, c, l, 0) (by kernel_rfl) ⟨rfl, rfl, trivial⟩ ⟨Only.refl _ _, h, hn, Int.le_refl _, by simp⟩ ?_
  rintro ⟨A1, n1, c1, l1, acc⟩ wr j ⟨ho, hb, hnc, hacc, hs⟩
  have hl1 := hb.len
  have hle1 := wsum_le l1
  conv => whnf
  refine VIf.dec (fun ht => ?_) (fun ht => ?_)
  · conv => whnf
    obtain ⟨x, y, r, rfl⟩ := two_of (l := l1) (by omega)
    simp only [List.length_cons, wsum] at hl1 hs hle1
    have hx := u8_le x; have hy := u8_le y
    have hle2 := wsum_le r
    obtain ⟨b, off, rfl, hG⟩ := hb.some_ (by omega)
    refine VDraw.q (by kernel_rfl) (by kernel_rfl) ?_
    conv => whnf
    refine ⟨_, _, rfl, 0, off, rfl, by omega, rfl, ?_⟩
    conv => whnf
    refine ⟨u8 x, fun w' hw' => Loads.one (by kernel_rfl) ((hb.o hw').ld (k := 0) rfl), ?_⟩
    conv => whnf
    refine ⟨_, _, rfl, 1, off + 1, rfl, by omega, rfl, ?_⟩
    conv => whnf
    refine ⟨u8 y, fun w' hw' => Loads.one (by kernel_rfl) ((hb.o hw').ld (k := 1) rfl), ?_⟩
    conv => whnf
    intro w2 ho2
    have e1 : IntKind.u64.wrap (acc + orI .u64 (IntKind.u64.wrap (IntKind.u64.wrap (x.toNat : Int) * pw 8 .u64)) (IntKind.u64.wrap (y.toNat : Int))) = acc + (x.toNat * 256 + y.toNat) := by
      simp only [wr64, show pw 8 .u64 = 256 from rfl]
      rw [show (x.toNat : Int) % 18446744073709551616 * 256 % 18446744073709551616 = (x.toNat : Int) * 256 by omega, or_256 .u64 (by omega) (by omega) (by omega) (by simp only [maxN]; omega)]
      omega
    conv => whnf
    refine ⟨2, n1, c1, rfl, rfl, rfl, by omega, by omega, by omega, _, n1 - 2, c1 - 2, rfl, rfl, rfl, ?_⟩
    conv => whnf
    refine ⟨(_, _, _, r, _), ⟨rfl, rfl, trivial⟩, ⟨ho.t0 ho2, ?_, ?_, ?_, ?_⟩, ?_⟩
    · have := (hb.o ho2).cut (lo := 2) (hi := n1) (m := c1) (by omega) (by omega) (Nat.le_refl _) rfl
      simp only [List.drop_succ_cons, List.drop_zero] at this
      rwa [List.take_of_length_le (by omega)] at this
    · omega
    · rw [e1]; omega
    · rw [e1]; omega
    · show n1 - 2 < n1; omega
  · conv => whnf
    refine VJoin.go (by kernel_rfl) ?_
    conv => whnf
    refine VIf.eq (fun h1 => ?_) (fun h1 => ?_)
    · obtain ⟨x, rfl⟩ : ∃ x, l1 = [x] := List.length_eq_one_iff.1 (by omega)
      obtain ⟨b, off, rfl, hG⟩ := hb.some_ (by omega)
      have hx := u8_le x
      simp only [wsum] at hs
      conv => whnf
      refine ⟨_, _, rfl, 0, off, rfl, by omega, rfl, ?_⟩
      conv => whnf
      refine ⟨u8 x, Loads.one (by kernel_rfl) (hb.ld (k := 0) rfl), ?_⟩
      conv => whnf
      have e1 : IntKind.u64.wrap (acc + IntKind.u64.wrap (IntKind.u64.wrap (x.toNat : Int) * pw 8 .u64)) = wsum l := by
        simp only [wr64, show pw 8 .u64 = 256 from rfl]
        omega
      rw [e1]
      refine (fold_does wr _ (by omega) (by omega)).mono ?_
      rintro v w' ⟨rfl, rfl⟩
      conv => whnf
      exact ⟨rfl, ho⟩
    · obtain rfl : l1 = [] := List.eq_nil_of_length_eq_zero (by omega)
      simp only [wsum] at hs
      obtain rfl : acc = wsum l := by omega
      conv => whnf
      refine (fold_does wr _ (by omega) (by omega)).mono ?_
      rintro v w' ⟨rfl, rfl⟩
      conv => whnf
      exact ⟨rfl, ho⟩
end Go.Proofs.YtofomopdaponbaaGreatDoor
