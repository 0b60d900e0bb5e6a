/-
  Mappings compared; the first example of the document (alive).
-/
import Derived.Test.YtofomopdaponbaaGreatDoorNlh
namespace Go.Proofs.YtofomopdaponbaaGreatDoor
open Go.RowKit
set_option linter.unusedVariables false
set_option linter.unusedSimpArgs false

/-- A call at a world, and with arguments, in another form. -/
theorem Does.at_ {P : Program} {f : FuncId} {args args' : List Value} {w w' : World} {R : Value → World → Prop} (ha : args = args') (hw : w = w') (h : Does P f args' w' R) : Does P f args w R := ha ▸ hw ▸ h
structure okNm (m : Nm) : Prop where
  addr : okAd m.addr
  port : -9223372036854775808 ≤ m.port ∧ m.port ≤ 9223372036854775807
  out : -9223372036854775808 ≤ m.out ∧ m.out ≤ 9223372036854775807
  used : -9223372036854775808 ≤ m.used ∧ m.used ≤ 9223372036854775807
def nmL (m : Nm) : List Lit := adL m.addr ++ [.int .i64 m.port, .int .i64 m.out, .int .i64 m.used]
theorem nmL_inj {a b : Nm} (ha : okNm a) (hb : okNm b) : nmL a = nmL b ↔ a = b := by
  constructor
  · intro h
    unfold nmL at h
    obtain ⟨h3, h4⟩ := List.append_inj h (by rw [adL_len ha.addr, adL_len hb.addr])
    have e2 := adL_inj.1 h3
    injection h4 with h7 h8
    injection h8 with h9 h10
    injection h10 with h11 _
    have e4 : a.port = b.port := by injection h7
    have e5 : a.out = b.out := by injection h9
    have e6 : a.used = b.used := by injection h11
    cases a
    cases b
    simp only at e2 e4 e5 e6
    subst e2 e4 e5 e6
    rfl
  · rintro rfl
    rfl
theorem nm_lits {m : Nm} (h : okNm m) : Tryz.prog.keyLits 4 48 (nmC m) = some (nmL m) := by
  have c48 : Tryz.prog.cellsOf 48 = 20 := by kernel_rfl
  have c24 : Tryz.prog.cellsOf 24 = 17 := by kernel_rfl
  have c3 : Tryz.prog.cellsOf 3 = 1 := by kernel_rfl
  have c2 : Tryz.prog.cellsOf 2 = 1 := by kernel_rfl
  have l1 := ad_lits h.addr 0
  have k1 := keyLits_int (P := Tryz.prog) (D := 2) Tryz.underlying3 (i64_wf h.port.1 h.port.2)
  have k2 := keyLits_int (P := Tryz.prog) (D := 2) Tryz.underlying3 (i64_wf h.out.1 h.out.2)
  have k3 := keyLits_int (P := Tryz.prog) (D := 2) Tryz.underlying2 (i64_wf h.used.1 h.used.2)
  have hk : nmC m = adC m.addr ++ [.int .i64 m.port, .int .i64 m.out, .int .i64 m.used] := by simp [nmC, adP_id h.addr]
  have n1 := adC_len h.addr
  have d1 : (adC m.addr ++ [Value.int .i64 m.port, .int .i64 m.out, .int .i64 m.used]).take 17 = adC m.addr := List.take_left' n1
  have d2 : (adC m.addr ++ [Value.int .i64 m.port, .int .i64 m.out, .int .i64 m.used]).drop 17 = [Value.int .i64 m.port, .int .i64 m.out, .int .i64 m.used] := List.drop_left' n1
  have d3 : (adC m.addr ++ [Value.int .i64 m.port, .int .i64 m.out, .int .i64 m.used]).drop 18 = [Value.int .i64 m.out, .int .i64 m.used] := by
    rw [show 18 = 17 + 1 by rfl, ← List.drop_drop, d2]
    rfl
  have d4 : (adC m.addr ++ [Value.int .i64 m.port, .int .i64 m.out, .int .i64 m.used]).drop 19 = [Value.int .i64 m.used] := by
    rw [show 19 = 18 + 1 by rfl, ← List.drop_drop, d3]
    rfl
  rw [hk]
  unfold Program.keyLits
  simp only [Tryz.underlying48]
  rw [if_pos ⟨by rw [c48]; simp [n1], by kernel_rfl⟩]
  simp only [List.mapM_cons, List.mapM_nil, c3, c24, c2, List.drop_zero, d1, d2, d3, d4, List.take_succ_cons, List.take_zero, l1, k1, k2, k3]
  simp [nmL]
theorem eql_nm {a b : Nm} (ha : okNm a) (hb : okNm b) (xo yo : Operand) : Eql Tryz.prog 48 xo yo (.agg ⟨nmC a⟩) (.agg ⟨nmC b⟩) (decide (a = b)) :=
  Eql.deep 4 (by decide) (by kernel_rfl) (by kernel_rfl) (formed_of (by kernel_rfl) (by rw [nmC_len]; kernel_rfl)) (formed_of (by kernel_rfl) (by rw [nmC_len]; kernel_rfl)) (nm_lits ha) (nm_lits hb) (by rw [decide_eq_true_iff, nmL_inj ha hb])
def aliveI : List UInt8 := [0x45, 0, 0, 30, 0, 7, 0, 0, 64, 17, 0x46, 0x8d, 10, 0, 0, 1, 198, 51, 100, 7, 0x13, 0x88, 0, 53, 0, 10, 0x4f, 0x78, 104, 105]
def aliveW : List UInt8 := [0x45, 0, 0, 30, 0, 7, 0, 0, 64, 17, 0x8e, 0x8c, 192, 0, 2, 1, 198, 51, 100, 7, 0x0f, 0xa0, 0, 53, 0, 10, 0x9b, 0x5f, 104, 105]
def aliveM : Nm := ⟨fourD 10 0 0 1, 5000, 4000, 0⟩
theorem aliveM_ok : okNm aliveM := ⟨fourD_ok _ _ _ _, by decide, by decide, by decide⟩
theorem may_ex : mayB exC = true := by kernel_rfl
theorem alive_out : outS (newS exC) 0 aliveI = (0, aliveW, ⟨exC, 0, [aliveM], [], []⟩) := by kernel_rfl
theorem alive_okS : okS ⟨exC, 0, [aliveM], [], []⟩ := ⟨exC_ok, by decide, by decide, by decide, by decide, by decide, by decide, by decide, fun m hm => by rw [List.mem_singleton.1 hm]; exact fourD_ok _ _ _ _, by simp, by simp⟩
set_option maxRecDepth 100000 in
theorem alive_does {w : World} (hs : Shp w) (hg : 1 < w.heap.size) : Does Tryz.prog 10 [] w (fun v w' => v = .bool true ∧ Only [] w w') := by
  refine Does.enter (fn := Tryz.f10) (by kernel_rfl) rfl (by kernel_rfl) (by kernel_rfl) ?_
  conv => whnf
  refine example_does.mono ?_
  rintro v w2 ⟨rfl, ho2⟩
  conv => whnf
  refine (new_does exC_ok).mono ?_
  rintro v w3 ⟨ho3, ⟨hm, -⟩ | ⟨-, T, rfl, hT, hSt⟩⟩
  · rw [may_ex] at hm
    cases hm
  have hw3 := ho2.t0 ho3
  conv => whnf
  have hal1 := (Only.refl [] w3).alloc (.cells ⟨aliveI.map u8⟩ 5)
  have hal := hal1.alloc (.cells ⟨aliveW.map u8⟩ 5)
  have hI : Bs ((w3.alloc (.cells ⟨aliveI.map u8⟩ 5)).alloc (.cells ⟨aliveW.map u8⟩ 5)) [w3.heap.size] (some ⟨w3.heap.size, 0, none⟩) 30 aliveI := (Sl.new w3 5 1 (aliveI.map u8) 30 rfl).o ((Only.refl [] _).alloc _)
  have hW : Bs ((w3.alloc (.cells ⟨aliveI.map u8⟩ 5)).alloc (.cells ⟨aliveW.map u8⟩ 5)) [(w3.alloc (.cells ⟨aliveI.map u8⟩ 5)).heap.size] (some ⟨(w3.alloc (.cells ⟨aliveI.map u8⟩ 5)).heap.size, 0, none⟩) 30 aliveW := Sl.new _ 5 1 (aliveW.map u8) 30 rfl
  have sz := World.size_alloc w3 (.cells ⟨aliveI.map u8⟩ 5)
  have hTl : T < w3.heap.size := hSt.lt T (by simp)
  have hgT : 1 ≠ T := by have := ho2.size; omega
  have hw4 := hw3.t0 hal
  refine Does.at_ (args' := [.pointer (some ⟨T, 0, none⟩), .slice (some ⟨w3.heap.size, 0, none⟩) 30 30, .int .i64 0]) (w' := (w3.alloc (.cells ⟨aliveI.map u8⟩ 5)).alloc (.cells ⟨aliveW.map u8⟩ 5)) (by kernel_rfl) (by kernel_rfl) ?_
  refine (out_does (hSt.o hal) (new_ok exC_ok may_ex) hI (by simp; omega) ((hs.o hw3).o hal) (by simpa using hgT) (by decide) (Nat.le_refl _) (by decide)).mono ?_
  rintro v w5 hE
  rw [alive_out] at hE
  obtain ⟨X, cx, FX, F', rfl, hrow, hSt5, ho5, hF', hX⟩ := hE
  dsimp only at hrow hSt5
  have hw5 : Only [] w w5 := hw4.trans ho5 (fun k hk => .inr (by
    obtain rfl : k = T := by simpa using hk
    exact Nat.le_trans ho2.size hT))
  have hW5 := hW.only ho5 (by simp; omega)
  conv => whnf
  refine (maps_small hSt5 alive_okS (by decide)).mono ?_
  rintro v w6 ⟨z', A, n, c, G, rfl, hp, -, hrow6, ho6, hG⟩
  obtain rfl : z' = [aliveM] := List.perm_singleton.1 hp
  obtain rfl : n = 1 := (hrow6.sl.num nmC_len (by decide)).symm
  have hX6 : Bs w6 FX X 30 aliveW := (Row.bs hrow).o ho6
  have hW6 := hW5.o ho6
  obtain ⟨b, off, rfl, -⟩ := hrow6.sl.some_ (by decide)
  conv => whnf
  refine VDraw.abs fun N0 hN => ?_
  refine VDraw.q (by kernel_rfl) (by kernel_rfl) ?_
  conv => whnf
  refine ⟨.bool true, fun w' hw' => ?_, ?_⟩
  · refine Does.at_ (args' := [.slice X 30 cx, .slice (some ⟨(w3.alloc (.cells ⟨aliveI.map u8⟩ 5)).heap.size, 0, none⟩) 30 30]) (w' := w') (by kernel_rfl) rfl ?_
    exact ((same_does (hX6.o hw') (hW6.o hw')).mono (fun v w2 e => ⟨e.1, e.2 ▸ hw'⟩))
  conv => whnf
  refine ⟨_, _, rfl, 0, off + 0 * 20, rfl, by decide, rfl, ?_⟩
  conv => whnf
  refine ⟨.agg ⟨nmC aliveM⟩, fun w' hw' => (hrow6.sl.o hw').elem (z := [aliveM]) (i := 0) nmC_len (by decide) (by kernel_rfl) (by kernel_rfl), ?_⟩
  conv => whnf
  refine ⟨.agg ⟨adC (fourD 10 0 0 1)⟩, fun w' hw' => ?_, ?_⟩
  · exact (four_does' (w := w') (a := 10) (b := 0) (c := 0) (d := 1)).q hw'
  conv => whnf
  refine ⟨true, eql_nm aliveM_ok aliveM_ok _ _, ?_⟩
  conv => whnf
  intro w7 ho7
  refine hN _ _ ?_
  conv => whnf
  exact ⟨rfl, (hw5.t0 ho6).t0 ho7⟩
end Go.Proofs.YtofomopdaponbaaGreatDoor
