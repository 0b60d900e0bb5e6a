/-
  What the nat's laws have of their own: four, example, wide, own, same.
-/
import Derived.Test.YtofomopdaponbaaGreatDoorYNso
import Derived.Laws.BytesString
namespace Go.Proofs.YtofomopdaponbaaGreatDoor
open Go.RowKit
set_option linter.unusedVariables false
set_option linter.unusedSimpArgs false

def z16 : List UInt8 := List.replicate 16 0
def fourD (a b c d : UInt8) : Ad := (4, [a, b, c, d, 0, 0, 0, 0, 0, 0, 0, 0, 0, 0, 0, 0])
theorem fourD_ok (a b c d : UInt8) : okAd (fourD a b c d) := okAd4 rfl
set_option maxRecDepth 100000 in
theorem four_does' {w : World} {a b c d : UInt8} : Does Tryz.prog 41 [u8 a, u8 b, u8 c, u8 d] w (fun v w' => v = .agg ⟨adC (fourD a b c d)⟩ ∧ Only [] w w') := by
  refine Does.enter (fn := Tryz.f41) (by kernel_rfl) rfl (by kernel_rfl) (by kernel_rfl) ?_
  conv => whnf
  refine vStore.fresh (cs := adC (fourD a b c d)) (by kernel_rfl) (by kernel_rfl) (one_adC _) (fun w2 b2 ho2 _ => ?_)
  conv => whnf
  refine ⟨_, Loads.all b2 (by kernel_rfl) (by kernel_rfl), ?_⟩
  conv => whnf
  exact ⟨rfl, ho2⟩
def exC : Cf := ⟨fourD 10 0 0 0, 8, fourD 192 0 2 1, 4000, 4001, 100, 8, 4, 30⟩
theorem exC_ok : okCf exC := ⟨fourD_ok _ _ _ _, fourD_ok _ _ _ _⟩
set_option maxRecDepth 100000 in
theorem example_does {w : World} : Does Tryz.prog 13 [] w (fun v w' => v = .agg ⟨cfC exC⟩ ∧ Only [] w w') := by
  have hA := Only.alloc (Only.refl [] w) (.cells ⟨cfC ⟨(0, z16), 0, (0, z16), 0, 0, 0, 0, 0, 0⟩⟩ 26)
  refine Does.enter (fn := Tryz.f13) (by kernel_rfl) rfl (by kernel_rfl) (by kernel_rfl) ?_
  conv => whnf
  refine (four_does' (a := 10) (b := 0) (c := 0) (d := 0)).mono ?_
  rintro v w2 ⟨rfl, ho2⟩
  conv => whnf
  refine (four_does' (a := 192) (b := 0) (c := 2) (d := 1)).mono ?_
  rintro v w3 ⟨rfl, ho3⟩
  have b0 := ((Blk.new w 26 ⟨cfC ⟨(0, z16), 0, (0, z16), 0, 0, 0, 0, 0, 0⟩⟩).only ho2 (by simp)).only ho3 (by simp)
  conv => whnf
  refine vStore.all (cs := cfC exC) b0 (by kernel_rfl) (by kernel_rfl) (one_cfC _) (fun w4 b4 ho4 _ => ?_)
  conv => whnf
  refine ⟨_, Loads.all b4 (by kernel_rfl) (by kernel_rfl), ?_⟩
  conv => whnf
  exact ⟨rfl, ((hA.t0 ho2).t0 ho3).nw ho4 (Nat.le_refl _)⟩
/-- Bytes as a string. -/
def bsS (l : List UInt8) : ByteArray := strOfNums (l.map fun c => (c.toNat : Int))
theorem bsS_list (l : List UInt8) : (bsS l).toList = l := by
  rw [ByteArray.toList_eq]
  unfold bsS
  rw [strOfNums_data, List.map_map]
  have : (fun n : Int => UInt8.ofNat n.toNat) ∘ (fun c : UInt8 => (c.toNat : Int)) = id := by
    funext c
    simp
  rw [this, List.map_id]
theorem vFall.str {P : Program} {w : World} {o : Oper} {ρ : Operand → Value} {K : Value → World → Prop} {sr d e : TypeId} {x : Operand} {G : List Nat} {A : Option Addr} {n c : Nat} {l : List UInt8}
    (ho : o.op = .convert sr d x) (hs : P.underlying sr = some (.slice e)) (he : P.underlying e = some (.int .u8)) (hd : P.underlying d = some .string) (hx : ρ x = .slice A n c) (h : Bs w G A n l) (hK : K (.string (bsS l)) w) : vFall P o ρ w K := by
  have key : (convert sr d (.slice A n c)).run P w = .ok (.string (bsS l)) w := by
    have hl := h.len
    cases A with
    | none =>
      obtain ⟨rfl, rfl⟩ := h.nil_
      exact run_convert_bytes_nil w sr e hs he 0 c d hd
    | some a =>
      rcases Nat.eq_zero_or_pos n with h0 | h0
      · obtain rfl : l = [] := List.eq_nil_of_length_eq_zero (by omega)
        rw [run_convert_bytes_string w sr d e _ n c hs he hd]
        subst h0
        rw [run_bytesToString w a 0 c [] (by simp [loadCells, loadCellsFrom])]
        rfl
      · obtain ⟨b, off, hA, -, hc⟩ := h.ex h0
        injection hA with hA
        subst hA
        exact run_convert_bytes_arg w sr e hs he b off n c (l.map fun c => (c.toNat : Int)) (by simp [hl]) (fun i hi => by
          rw [hc i (by omega)]
          simp [u8, List.getElem?_eq_getElem (show i < l.length by omega)]) d hd
  refine ⟨_, _, ⟨?_⟩, hK⟩
  simp only [execOp, ho, hx, Sem.run_bind, key, Result.andThen_ok, Sem.run_pure]
def sameL (a b : List UInt8) : Bool := a == b
set_option maxRecDepth 100000 in
theorem same_does {w : World} {G H : List Nat} {A B : Option Addr} {n c m d : Nat} {a b : List UInt8} (ha : Bs w G A n a) (hb : Bs w H B m b) :
    Does Tryz.prog 29 [.slice A n c, .slice B m d] w (fun v w' => v = .bool (sameL a b) ∧ w = w') := by
  refine Does.enter (fn := Tryz.f29) (by kernel_rfl) rfl (by kernel_rfl) (by kernel_rfl) ?_
  conv => whnf
  refine vFall.str rfl Tryz.underlying38 Tryz.underlying5 Tryz.underlying9 rfl ha ?_
  conv => whnf
  refine vFall.str rfl Tryz.underlying38 Tryz.underlying5 Tryz.underlying9 rfl hb ?_
  conv => whnf
  exact ⟨congrArg Value.bool (by rw [bsS_list, bsS_list]; rfl), rfl⟩
set_option maxRecDepth 100000 in
theorem own_does {w : World} {G : List Nat} {A : Option Addr} {n c : Nat} {l : List UInt8} (h : Bs w G A n l) (hn : n ≤ 140737488355328) :
    Does Tryz.prog 16 [.slice A n c] w (fun v w' => Own w w' 5 1 (l.map u8) v) := by
  have hl := h.len
  refine Does.enter (fn := Tryz.f16) (by kernel_rfl) rfl (by kernel_rfl) (by kernel_rfl) ?_
  conv => whnf
  refine VLoop.inv (α := Nat × Option Addr × Nat) [(3, 5), (5, 18)] (fun s => [(3, .slice s.2.1 s.1 s.2.2), (4, .int .i64 s.1)]) (fun s w' => s.1 ≤ n ∧ ∃ F, Row w' 5 1 F s.2.1 s.1 s.2.2 ((l.take s.1).map u8) ∧ Only [] w w' ∧ ∀ k ∈ F, w.heap.size ≤ k) (fun s => n - s.1) (0, none, 0) (by kernel_rfl) ⟨rfl, rfl, trivial⟩ ⟨Nat.zero_le _, [], Row.nil _ _ _ _, Only.refl _ _, by simp⟩ ?_
  rintro ⟨i, B, d⟩ wr j ⟨hi, F, hrow, ho, hF⟩
  dsimp only at hi hrow
  conv => whnf
  refine VIf.dec (fun ht => ?_) (fun ht => ?_)
  · have ht : (i : Int) < (n : Int) := ht
    have hi2 : i < l.length := by omega
    have hb := h.o ho
    obtain ⟨b, off, rfl, -⟩ := hb.some_ (by omega)
    conv => whnf
    refine ⟨_, _, rfl, i, off + i, rfl, by omega, p1 _ _, ?_⟩
    conv => whnf
    refine ⟨_, Loads.one (by kernel_rfl) (hb.ld (List.getElem?_eq_getElem hi2)), ?_⟩
    conv => whnf
    refine vFall.append 5 1 1 rfl (by kernel_rfl) rfl (hrow.alloc _) rfl (Sl.new wr 5 1 [u8 l[i]] 1 rfl) (by simp [u8, Value.oneCell']) (by omega) (by omega) ?_
    intro A5 c5 F5 w5 hr5 ho5 hF5
    have hal := (Only.refl [] wr).alloc (.cells ⟨[u8 l[i]]⟩ 5)
    have e1 : IntKind.i64.wrap ((i : Int) + 1) = ((i + 1 : Nat) : Int) := by rw [wi64]; omega
    conv => whnf
    refine ⟨(i + 1, A5, c5), ⟨rfl, congrArg (Value.int .i64) e1, trivial⟩, ⟨by show i + 1 ≤ n; omega, F5, ?_, (ho.t0 hal).trans ho5 (fun x hx => .inr (hF x hx)), fun k hk => ?_⟩, by show n - (i + 1) < n - i; omega⟩
    · refine hr5.cast ?_
      show (l.take i).map u8 ++ [u8 l[i]] = (l.take (i + 1)).map u8
      rw [take_snoc' hi2, List.map_append]
      rfl
    · rcases hF5 k hk with h1 | h1
      · exact hF k h1
      · exact Nat.le_trans (ho.t0 hal).size h1
  · have ht : ¬ (i : Int) < (n : Int) := ht
    obtain rfl : i = n := by omega
    conv => whnf
    refine ⟨B, i, d, F, rfl, hrow.cast (by rw [List.take_of_length_le (by omega)]), ho, hF⟩
end Go.Proofs.YtofomopdaponbaaGreatDoor
/-
  Mappings compared; the first example of the document (alive).
-/
namespace Go.Proofs.YtofomopdaponbaaGreatDoor
open Go.RowKit
set_option linter.unusedVariables false
set_option linter.unusedSimpArgs false

/-- A call at a world, and with arguments, in another form. -/
theorem Does.at_ {P : Program} {f : FuncId} {args args' : List Value} {w w' : World} {R : Value → World → Prop} (ha : args = args') (hw : w = w') (h : Does P f args' w' R) : Does P f args w R := ha ▸ hw ▸ h
structure okNm (m : Nm) : Prop where
  addr : okAd m.addr
  port : -9223372036854775808 ≤ m.port ∧ m.port ≤ 9223372036854775807
  out : -9223372036854775808 ≤ m.out ∧ m.out ≤ 9223372036854775807
  used : -9223372036854775808 ≤ m.used ∧ m.used ≤ 9223372036854775807
def nmL (m : Nm) : List Lit := adL m.addr ++ [.int .i64 m.port, .int .i64 m.out, .int .i64 m.used]
theorem nmL_inj {a b : Nm} (ha : okNm a) (hb : okNm b) : nmL a = nmL b ↔ a = b := by
  constructor
  · intro h
    unfold nmL at h
    obtain ⟨h3, h4⟩ := List.append_inj h (by rw [adL_len ha.addr, adL_len hb.addr])
    have e2 := adL_inj.1 h3
    injection h4 with h7 h8
    injection h8 with h9 h10
    injection h10 with h11 _
    have e4 : a.port = b.port := by injection h7
    have e5 : a.out = b.out := by injection h9
    have e6 : a.used = b.used := by injection h11
    cases a
    cases b
    simp only at e2 e4 e5 e6
    subst e2 e4 e5 e6
    rfl
  · rintro rfl
    rfl
theorem nm_lits {m : Nm} (h : okNm m) : Tryz.prog.keyLits 4 48 (nmC m) = some (nmL m) := by
  have c48 : Tryz.prog.cellsOf 48 = 20 := by kernel_rfl
  have c24 : Tryz.prog.cellsOf 24 = 17 := by kernel_rfl
  have c3 : Tryz.prog.cellsOf 3 = 1 := by kernel_rfl
  have c2 : Tryz.prog.cellsOf 2 = 1 := by kernel_rfl
  have l1 := ad_lits h.addr 0
  have k1 := keyLits_int (P := Tryz.prog) (D := 2) Tryz.underlying3 (i64_wf h.port.1 h.port.2)
  have k2 := keyLits_int (P := Tryz.prog) (D := 2) Tryz.underlying3 (i64_wf h.out.1 h.out.2)
  have k3 := keyLits_int (P := Tryz.prog) (D := 2) Tryz.underlying2 (i64_wf h.used.1 h.used.2)
  have hk : nmC m = adC m.addr ++ [.int .i64 m.port, .int .i64 m.out, .int .i64 m.used] := by simp [nmC, adP_id h.addr]
  have n1 := adC_len h.addr
  have d1 : (adC m.addr ++ [Value.int .i64 m.port, .int .i64 m.out, .int .i64 m.used]).take 17 = adC m.addr := List.take_left' n1
  have d2 : (adC m.addr ++ [Value.int .i64 m.port, .int .i64 m.out, .int .i64 m.used]).drop 17 = [Value.int .i64 m.port, .int .i64 m.out, .int .i64 m.used] := List.drop_left' n1
  have d3 : (adC m.addr ++ [Value.int .i64 m.port, .int .i64 m.out, .int .i64 m.used]).drop 18 = [Value.int .i64 m.out, .int .i64 m.used] := by
    rw [show 18 = 17 + 1 by rfl, ← List.drop_drop, d2]
    rfl
  have d4 : (adC m.addr ++ [Value.int .i64 m.port, .int .i64 m.out, .int .i64 m.used]).drop 19 = [Value.int .i64 m.used] := by
    rw [show 19 = 18 + 1 by rfl, ← List.drop_drop, d3]
    rfl
  rw [hk]
  unfold Program.keyLits
  simp only [Tryz.underlying48]
  rw [if_pos ⟨by rw [c48]; simp [n1], by kernel_rfl⟩]
  simp only [List.mapM_cons, List.mapM_nil, c3, c24, c2, List.drop_zero, d1, d2, d3, d4, List.take_succ_cons, List.take_zero, l1, k1, k2, k3]
  simp [nmL]
theorem eql_nm {a b : Nm} (ha : okNm a) (hb : okNm b) (xo yo : Operand) : Eql Tryz.prog 48 xo yo (.agg ⟨nmC a⟩) (.agg ⟨nmC b⟩) (decide (a = b)) :=
  Eql.deep 4 (by decide) (by kernel_rfl) (by kernel_rfl) (formed_of (by kernel_rfl) (by rw [nmC_len]; kernel_rfl)) (formed_of (by kernel_rfl) (by rw [nmC_len]; kernel_rfl)) (nm_lits ha) (nm_lits hb) (by rw [decide_eq_true_iff, nmL_inj ha hb])
def aliveI : List UInt8 := [0x45, 0, 0, 30, 0, 7, 0, 0, 64, 17, 0x46, 0x8d, 10, 0, 0, 1, 198, 51, 100, 7, 0x13, 0x88, 0, 53, 0, 10, 0x4f, 0x78, 104, 105]
def aliveW : List UInt8 := [0x45, 0, 0, 30, 0, 7, 0, 0, 64, 17, 0x8e, 0x8c, 192, 0, 2, 1, 198, 51, 100, 7, 0x0f, 0xa0, 0, 53, 0, 10, 0x9b, 0x5f, 104, 105]
def aliveM : Nm := ⟨fourD 10 0 0 1, 5000, 4000, 0⟩
theorem aliveM_ok : okNm aliveM := ⟨fourD_ok _ _ _ _, by decide, by decide, by decide⟩
theorem may_ex : mayB exC = true := by kernel_rfl
theorem alive_out : outS (newS exC) 0 aliveI = (0, aliveW, ⟨exC, 0, [aliveM], [], []⟩) := by kernel_rfl
theorem alive_okS : okS ⟨exC, 0, [aliveM], [], []⟩ := ⟨exC_ok, by decide, by decide, by decide, by decide, by decide, by decide, by decide, fun m hm => by rw [List.mem_singleton.1 hm]; exact fourD_ok _ _ _ _, by simp, by simp⟩
set_option maxRecDepth 100000 in
theorem alive_does {w : World} (hs : Shp w) (hg : 1 < w.heap.size) : Does Tryz.prog 10 [] w (fun v w' => v = .bool true ∧ Only [] w w') := by
  refine Does.enter (fn := Tryz.f10) (by kernel_rfl) rfl (by kernel_rfl) (by kernel_rfl) ?_
  conv => whnf
  refine example_does.mono ?_
  rintro v w2 ⟨rfl, ho2⟩
  conv => whnf
  refine (new_does exC_ok).mono ?_
  rintro v w3 ⟨ho3, ⟨hm, -⟩ | ⟨-, T, rfl, hT, hSt⟩⟩
  · rw [may_ex] at hm
    cases hm
  have hw3 := ho2.t0 ho3
  conv => whnf
  have hal1 := (Only.refl [] w3).alloc (.cells ⟨aliveI.map u8⟩ 5)
  have hal := hal1.alloc (.cells ⟨aliveW.map u8⟩ 5)
  have hI : Bs ((w3.alloc (.cells ⟨aliveI.map u8⟩ 5)).alloc (.cells ⟨aliveW.map u8⟩ 5)) [w3.heap.size] (some ⟨w3.heap.size, 0, none⟩) 30 aliveI := (Sl.new w3 5 1 (aliveI.map u8) 30 rfl).o ((Only.refl [] _).alloc _)
  have hW : Bs ((w3.alloc (.cells ⟨aliveI.map u8⟩ 5)).alloc (.cells ⟨aliveW.map u8⟩ 5)) [(w3.alloc (.cells ⟨aliveI.map u8⟩ 5)).heap.size] (some ⟨(w3.alloc (.cells ⟨aliveI.map u8⟩ 5)).heap.size, 0, none⟩) 30 aliveW := Sl.new _ 5 1 (aliveW.map u8) 30 rfl
  have sz := World.size_alloc w3 (.cells ⟨aliveI.map u8⟩ 5)
  have hTl : T < w3.heap.size := hSt.lt T (by simp)
  have hgT : 1 ≠ T := by have := ho2.size; omega
  have hw4 := hw3.t0 hal
  refine Does.at_ (args' := [.pointer (some ⟨T, 0, none⟩), .slice (some ⟨w3.heap.size, 0, none⟩) 30 30, .int .i64 0]) (w' := (w3.alloc (.cells ⟨aliveI.map u8⟩ 5)).alloc (.cells ⟨aliveW.map u8⟩ 5)) (by kernel_rfl) (by kernel_rfl) ?_
  refine (out_does (hSt.o hal) (new_ok exC_ok may_ex) hI (by simp; omega) ((hs.o hw3).o hal) (by simpa using hgT) (by decide) (Nat.le_refl _) (by decide)).mono ?_
  rintro v w5 hE
  rw [alive_out] at hE
  obtain ⟨X, cx, FX, F', rfl, hrow, hSt5, ho5, hF', hX⟩ := hE
  dsimp only at hrow hSt5
  have hw5 : Only [] w w5 := hw4.trans ho5 (fun k hk => .inr (by
    obtain rfl : k = T := by simpa using hk
    exact Nat.le_trans ho2.size hT))
  have hW5 := hW.only ho5 (by simp; omega)
  conv => whnf
  refine (maps_small hSt5 alive_okS (by decide)).mono ?_
  rintro v w6 ⟨z', A, n, c, G, rfl, hp, -, hrow6, ho6, hG⟩
  obtain rfl : z' = [aliveM] := List.perm_singleton.1 hp
  obtain rfl : n = 1 := (hrow6.sl.num nmC_len (by decide)).symm
  have hX6 : Bs w6 FX X 30 aliveW := (Row.bs hrow).o ho6
  have hW6 := hW5.o ho6
  obtain ⟨b, off, rfl, -⟩ := hrow6.sl.some_ (by decide)
  conv => whnf
  refine VDraw.abs fun N0 hN => ?_
  refine VDraw.q (by kernel_rfl) (by kernel_rfl) ?_
  conv => whnf
  refine ⟨.bool true, fun w' hw' => ?_, ?_⟩
  · refine Does.at_ (args' := [.slice X 30 cx, .slice (some ⟨(w3.alloc (.cells ⟨aliveI.map u8⟩ 5)).heap.size, 0, none⟩) 30 30]) (w' := w') (by kernel_rfl) rfl ?_
    exact ((same_does (hX6.o hw') (hW6.o hw')).mono (fun v w2 e => ⟨e.1, e.2 ▸ hw'⟩))
  conv => whnf
  refine ⟨_, _, rfl, 0, off + 0 * 20, rfl, by decide, rfl, ?_⟩
  conv => whnf
  refine ⟨.agg ⟨nmC aliveM⟩, fun w' hw' => (hrow6.sl.o hw').elem (z := [aliveM]) (i := 0) nmC_len (by decide) (by kernel_rfl) (by kernel_rfl), ?_⟩
  conv => whnf
  refine ⟨.agg ⟨adC (fourD 10 0 0 1)⟩, fun w' hw' => ?_, ?_⟩
  · exact (four_does' (w := w') (a := 10) (b := 0) (c := 0) (d := 1)).q hw'
  conv => whnf
  refine ⟨true, eql_nm aliveM_ok aliveM_ok _ _, ?_⟩
  conv => whnf
  intro w7 ho7
  refine hN _ _ ?_
  conv => whnf
  exact ⟨rfl, (hw5.t0 ho6).t0 ho7⟩
end Go.Proofs.YtofomopdaponbaaGreatDoor
