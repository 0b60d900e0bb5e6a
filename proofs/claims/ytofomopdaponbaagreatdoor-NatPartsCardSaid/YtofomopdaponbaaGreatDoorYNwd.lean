/-
  A nat with so many ports (the laws' helper wide).
-/
import Derived.Test.YtofomopdaponbaaGreatDoorZi
namespace Go.Proofs.YtofomopdaponbaaGreatDoor
open Go.RowKit
set_option linter.unusedVariables false
set_option linter.unusedSimpArgs false

def wdC (a b c : Int) : Cf := ⟨fourD 10 0 0 0, 8, fourD 192 0 2 1, 4000, a, 100, b, c, 30⟩
theorem wdC_ok (a b c : Int) : okCf (wdC a b c) := ⟨fourD_ok _ _ _ _, fourD_ok _ _ _ _⟩
theorem exC_wd : exC = wdC 4001 8 4 := rfl
theorem wd_last (a b c v : Int) : (cfC (wdC a b c)).set 36 (.int .i64 v) = cfC (wdC v b c) := rfl
theorem wd_maps (a b c v : Int) : (cfC (wdC a b c)).set 38 (.int .i64 v) = cfC (wdC a v c) := rfl
theorem wd_parts (a b c v : Int) : (cfC (wdC a b c)).set 39 (.int .i64 v) = cfC (wdC a b v) := rfl
theorem wd_may {a : Int} (h1 : 4000 ≤ a) (h2 : a ≤ 65535) : mayB (wdC a 256 64) = true := by
  have e : mayB (wdC a 256 64) = (decide (a ≤ 65535) && decide ((4000 : Int) ≤ a)) := by
    unfold mayB
    have k1 : decide ((wdC a 256 64).net.1 = 4) = true := rfl
    have k2 : decide (maskE (wdC a 256 64).net (wdC a 256 64).bits = 0) = true := by kernel_rfl
    have k3 : decide (maskA (wdC a 256 64).net (wdC a 256 64).bits = (wdC a 256 64).net) = true := by kernel_rfl
    have k4 : decide ((wdC a 256 64).outside.1 = 4) = true := rfl
    have k5 : decide (kindA (wdC a 256 64).outside = 5) = true := by kernel_rfl
    have k6 : withinA (wdC a 256 64).outside (wdC a 256 64).net (wdC a 256 64).bits = false := by kernel_rfl
    have k7 : decide (1 ≤ (wdC a 256 64).first) = true := by kernel_rfl
    have k8 : betweenI (wdC a 256 64).life 1 1099511627776 = true := by kernel_rfl
    have k9 : betweenI (wdC a 256 64).hold 1 1099511627776 = true := by kernel_rfl
    have k10 : betweenI (wdC a 256 64).parts 1 64 = true := by kernel_rfl
    have k11 : betweenI (wdC a 256 64).maps 1 256 = true := by kernel_rfl
    rw [k1, k2, k3, k4, k5, k6, k7, k8, k9, k10, k11]
    simp only [wdC, Bool.true_and, Bool.not_false, Bool.and_true]
    rfl
  rw [e, decide_eq_true h2, decide_eq_true h1]
  rfl
theorem and255i {x : Int} : 0 ≤ andI .i64 x 255 ∧ andI .i64 x 255 ≤ 255 := by
  unfold andI
  have h1 : (BitVec.ofInt IntKind.i64.bits x &&& BitVec.ofInt IntKind.i64.bits 255).toNat ≤ 255 := by
    rw [BitVec.toNat_and]
    exact Nat.le_trans Nat.and_le_right (by decide)
  rw [wi64]
  omega
def wideC (p : Int) : Cf := wdC (4000 + andI .i64 p 255) 256 64
theorem wideC_may (p : Int) : mayB (wideC p) = true := wd_may (by have := and255i (x := p); omega) (by have := and255i (x := p); omega)
theorem wideC_ok (p : Int) : okCf (wideC p) := wdC_ok _ _ _
set_option maxRecDepth 100000 in
theorem wide_does {w : World} {p : Int} :
    Does Tryz.prog 20 [.int .i64 p] w (fun v w' => ∃ T, v = .tuple ⟨[.pointer (some ⟨T, 0, none⟩), .agg ⟨cfC (wideC p)⟩]⟩ ∧ w.heap.size ≤ T ∧ St w' T (newS (wideC p)) [T] ∧ Only [] w w') := by
  have hp := and255i (x := p)
  have e1 : IntKind.i64.wrap (4000 + andI .i64 p 255) = 4000 + andI .i64 p 255 := wi_id (by omega) (by omega)
  have b3 := Blk.new w 26 ⟨cfC ⟨(0, z16), 0, (0, z16), 0, 0, 0, 0, 0, 0⟩⟩
  have hA := Only.alloc (Only.refl [] w) (.cells ⟨cfC ⟨(0, z16), 0, (0, z16), 0, 0, 0, 0, 0, 0⟩⟩ 26)
  have z1 := World.size_alloc w (.cells ⟨cfC ⟨(0, z16), 0, (0, z16), 0, 0, 0, 0, 0, 0⟩⟩ 26)
  refine Does.enter (fn := Tryz.f20) (by kernel_rfl) rfl (by kernel_rfl) (by kernel_rfl) ?_
  conv => whnf
  refine example_does.mono ?_
  rintro v w2 ⟨rfl, ho2⟩
  have hw2 := hA.t0 ho2
  have b32 := b3.only ho2 (by simp)
  conv => whnf
  refine vStore.fresh (cs := cfC exC) (by kernel_rfl) (by kernel_rfl) (one_cfC _) (fun w3 b7 ho3 hz3 => ?_)
  have hw3 := hw2.t0 ho3
  have b33 := b32.only ho3 (by simp)
  rw [exC_wd] at b7
  conv => whnf
  refine ⟨.int .i64 4000, Loads.one (by kernel_rfl) (b7.at (i := 35) rfl), ?_⟩
  conv => whnf
  rw [e1]
  have b3n : ∀ {wa wb : World} {C : Array Value}, Blk wa w.heap.size 26 C → Only [w2.heap.size] wa wb → Blk wb w.heap.size 26 C := fun hb ho => hb.only ho (fun hm => by
    have h3 : w.heap.size = w2.heap.size := List.mem_singleton.1 hm
    have := hw2.size
    have := b32.lt
    omega)
  refine vStore.one b7 (by kernel_rfl) rfl (i := 36) (u := .int .i64 4001) rfl (fun b7 ho4 => ?_)
  rw [wd_last] at b7
  have hw4 : Only [] w _ := hw3.nw ho4 hw2.size
  have b34 := b3n b33 ho4
  conv => whnf
  refine vStore.one b7 (by kernel_rfl) rfl (i := 38) (u := .int .i64 8) rfl (fun b7 ho5 => ?_)
  rw [wd_maps] at b7
  have hw5 : Only [] w _ := hw4.nw ho5 hw2.size
  have b35 := b3n b34 ho5
  conv => whnf
  refine vStore.one b7 (by kernel_rfl) rfl (i := 39) (u := .int .i64 4) rfl (fun b7 ho6 => ?_)
  rw [wd_parts] at b7
  have hw6 : Only [] w _ := hw5.nw ho6 hw2.size
  have b36 := b3n b35 ho6
  conv => whnf
  refine ⟨_, Loads.all b7 (by kernel_rfl) (by rw [cf_len (wdC_ok _ _ _)]; kernel_rfl), ?_⟩
  conv => whnf
  refine (new_does (wdC_ok _ _ _)).mono ?_
  rintro v w7 ⟨ho7, ⟨hmn, -⟩ | ⟨-, T, rfl, hT, hSt⟩⟩
  · have hmy := wideC_may p
    unfold wideC at hmy
    rw [hmy] at hmn
    cases hmn
  have hw7 := hw6.t0 ho7
  have b77 := b7.only ho7 (by simp)
  have b37 := b36.only ho7 (by simp)
  conv => whnf
  refine VDraw.held (fun w' => Blk w' w2.heap.size 26 ⟨cfC (wideC p)⟩) [0, 1, 2, 3] (by kernel_rfl) (by kernel_rfl) b77.drew ?_
  conv => whnf
  refine ⟨_, fun w' hw' => Loads.all hw' (by kernel_rfl) (by rw [cf_len (wideC_ok p)]; kernel_rfl), ?_⟩
  conv => whnf
  refine vStore.all (cs := cfC (wideC p)) b37.drew (by rw [cf_len (wideC_ok p)]; kernel_rfl) (by rw [cf_len (wideC_ok p)]; kernel_rfl) (one_cfC _) (fun w8 b38 ho8 _ => ?_)
  have hne : w.heap.size < w2.heap.size := by
    have := b32.lt
    omega
  refine ⟨b77.drew.only ho8 (fun hm => by
    have h3 : w2.heap.size = w.heap.size := List.mem_singleton.1 hm
    omega), ?_⟩
  conv => whnf
  refine ⟨_, Loads.all b38 (by kernel_rfl) (by rw [cf_len (wideC_ok p)]; kernel_rfl), ?_⟩
  conv => whnf
  have hTw : w.heap.size ≤ T ∧ T ≠ w.heap.size := by
    have h1 := hw6.size
    have h2 := b36.lt
    exact ⟨by omega, by omega⟩
  exact ⟨T, rfl, hTw.1, St.only (hSt.o ((Only.refl [] w7).drew)) ho8 (fun k hk => by
    obtain rfl : k = T := by simpa using hk
    intro hm
    exact hTw.2 (List.mem_singleton.1 hm)), hw7.drew.nw ho8 (Nat.le_refl _)⟩
end Go.Proofs.YtofomopdaponbaaGreatDoor
