/-
  What the nat's laws have of their own: four, example, wide, own, same.
-/
import Derived.Test.YtofomopdaponbaaGreatDoorNso
import Derived.Laws.BytesString
namespace Go.Proofs.YtofomopdaponbaaGreatDoor
open Go.RowKit
set_option linter.unusedVariables false
set_option linter.unusedSimpArgs false

def z16 : List UInt8 := List.replicate 16 0
def fourD (a b c d : UInt8) : Ad := (4, [a, b, c, d, 0, 0, 0, 0, 0, 0, 0, 0, 0, 0, 0, 0])
theorem fourD_ok (a b c d : UInt8) : okAd (fourD a b c d) := okAd4 rfl
set_option maxRecDepth 100000 in
theorem four_does' {w : World} {a b c d : UInt8} : Does Tryz.prog 41 [u8 a, u8 b, u8 c, u8 d] w (fun v w' => v = .agg ⟨adC (fourD a b c d)⟩ ∧ Only [] w w') := by
  refine Does.enter (fn := Tryz.f41) (by kernel_rfl) rfl (by kernel_rfl) (by kernel_rfl) ?_
  conv => whnf
  refine vStore.fresh (cs := adC (fourD a b c d)) (by kernel_rfl) (by kernel_rfl) (one_adC _) (fun w2 b2 ho2 _ => ?_)
  conv => whnf
  refine ⟨_, Loads.all b2 (by kernel_rfl) (by kernel_rfl), ?_⟩
  conv => whnf
  exact ⟨rfl, ho2⟩
def exC : Cf := ⟨fourD 10 0 0 0, 8, fourD 192 0 2 1, 4000, 4001, 100, 8, 4, 30⟩
theorem exC_ok : okCf exC := ⟨fourD_ok _ _ _ _, fourD_ok _ _ _ _⟩
set_option maxRecDepth 100000 in
theorem example_does {w : World} : Does Tryz.prog 13 [] w (fun v w' => v = .agg ⟨cfC exC⟩ ∧ Only [] w w') := by
  have hA := Only.alloc (Only.refl [] w) (.cells ⟨cfC ⟨(0, z16), 0, (0, z16), 0, 0, 0, 0, 0, 0⟩⟩ 26)
  refine Does.enter (fn := Tryz.f13) (by kernel_rfl) rfl (by kernel_rfl) (by kernel_rfl) ?_
  conv => whnf
  refine (four_does' (a := 10) (b := 0) (c := 0) (d := 0)).mono ?_
  rintro v w2 ⟨rfl, ho2⟩
  conv => whnf
  refine (four_does' (a := 192) (b := 0) (c := 2) (d := 1)).mono ?_
  rintro v w3 ⟨rfl, ho3⟩
  have b0 := ((Blk.new w 26 ⟨cfC ⟨(0, z16), 0, (0, z16), 0, 0, 0, 0, 0, 0⟩⟩).only ho2 (by simp)).only ho3 (by simp)
  conv => whnf
  refine vStore.all (cs := cfC exC) b0 (by kernel_rfl) (by kernel_rfl) (one_cfC _) (fun w4 b4 ho4 _ => ?_)
  conv => whnf
  refine ⟨_, Loads.all b4 (by kernel_rfl) (by kernel_rfl), ?_⟩
  conv => whnf
  exact ⟨rfl, ((hA.t0 ho2).t0 ho3).nw ho4 (Nat.le_refl _)⟩
/-- Bytes as a string. -/
def bsS (l : List UInt8) : ByteArray := strOfNums (l.map fun c => (c.toNat : Int))
theorem bsS_list (l : List UInt8) : (bsS l).toList = l := by
  rw [ByteArray.toList_eq]
  unfold bsS
  rw [strOfNums_data, List.map_map]
  have : (fun n : Int => UInt8.ofNat n.toNat) ∘ (fun c : UInt8 => (c.toNat : Int)) = id := by
    funext c
    simp
  rw [this, List.map_id]
theorem vFall.str {P : Program} {w : World} {o : Oper} {ρ : Operand → Value} {K : Value → World → Prop} {sr d e : TypeId} {x : Operand} {G : List Nat} {A : Option Addr} {n c : Nat} {l : List UInt8}
    (ho : o.op = .convert sr d x) (hs : P.underlying sr = some (.slice e)) (he : P.underlying e = some (.int .u8)) (hd : P.underlying d = some .string) (hx : ρ x = .slice A n c) (h : Bs w G A n l) (hK : K (.string (bsS l)) w) : vFall P o ρ w K := by
  have key : (convert sr d (.slice A n c)).run P w = .ok (.string (bsS l)) w := by
    have hl := h.len
    cases A with
    | none =>
      obtain ⟨rfl, rfl⟩ := h.nil_
      exact run_convert_bytes_nil w sr e hs he 0 c d hd
    | some a =>
      rcases Nat.eq_zero_or_pos n with h0 | h0
      · obtain rfl : l = [] := List.eq_nil_of_length_eq_zero (by omega)
        rw [run_convert_bytes_string w sr d e _ n c hs he hd]
        subst h0
        rw [run_bytesToString w a 0 c [] (by simp [loadCells, loadCellsFrom])]
        rfl
      · obtain ⟨b, off, hA, -, hc⟩ := h.ex h0
        injection hA with hA
        subst hA
        exact run_convert_bytes_arg w sr e hs he b off n c (l.map fun c => (c.toNat : Int)) (by simp [hl]) (fun i hi => by
          rw [hc i (by omega)]
          simp [u8, List.getElem?_eq_getElem (show i < l.length by omega)]) d hd
  refine ⟨_, _, ⟨?_⟩, hK⟩
  simp only [execOp, ho, hx, Sem.run_bind, key, Result.andThen_ok, Sem.run_pure]
def sameL (a b : List UInt8) : Bool := a == b
set_option maxRecDepth 100000 in
theorem same_does {w : World} {G H : List Nat} {A B : Option Addr} {n c m d : Nat} {a b : List UInt8} (ha : Bs w G A n a) (hb : Bs w H B m b) :
    Does Tryz.prog 29 [.slice A n c, .slice B m d] w (fun v w' => v = .bool (sameL a b) ∧ w = w') := by
  refine Does.enter (fn := Tryz.f29) (by kernel_rfl) rfl (by kernel_rfl) (by kernel_rfl) ?_
  conv => whnf
  refine vFall.str rfl Tryz.underlying38 Tryz.underlying5 Tryz.underlying9 rfl ha ?_
  conv => whnf
  refine vFall.str rfl Tryz.underlying38 Tryz.underlying5 Tryz.underlying9 rfl hb ?_
  conv => whnf
  exact ⟨congrArg Value.bool (by rw [bsS_list, bsS_list]; rfl), rfl⟩
set_option maxRecDepth 100000 in
theorem own_does {w : World} {G : List Nat} {A : Option Addr} {n c : Nat} {l : List UInt8} (h : Bs w G A n l) (hn : n ≤ 140737488355328) :
    Does Tryz.prog 16 [.slice A n c] w (fun v w' => Own w w' 5 1 (l.map u8) v) := by
  have hl := h.len
  refine Does.enter (fn := Tryz.f16) (by kernel_rfl) rfl (by kernel_rfl) (by kernel_rfl) ?_
  conv => whnf
  refine VLoop.inv (α := Nat × Option Addr × Nat) [(3, 5), (5, 18)] (fun s => [(3, .slice s.2.1 s.1 s.2.2), (4, .int .i64 s.1)]) (fun s w' => s.1 ≤ n ∧ ∃ F, Row w' 5 1 F s.2.1 s.1 s.2.2 ((l.take s.1).map u8) ∧ Only [] w w' ∧ ∀ k ∈ F, w.heap.size ≤ k) (fun s => n - s.1) (0, none, 0) (by kernel_rfl) ⟨rfl, rfl, trivial⟩ ⟨Nat.zero_le _, [], Row.nil _ _ _ _, Only.refl _ _, by simp⟩ ?_
  rintro ⟨i, B, d⟩ wr j ⟨hi, F, hrow, ho, hF⟩
  dsimp only at hi hrow
  conv => whnf
  refine VIf.dec (fun ht => ?_) (fun ht => ?_)
  · have ht : (i : Int) < (n : Int) := ht
    have hi2 : i < l.length := by omega
    have hb := h.o ho
    obtain ⟨b, off, rfl, -⟩ := hb.some_ (by omega)
    conv => whnf
    refine ⟨_, _, rfl, i, off + i, rfl, by omega, p1 _ _, ?_⟩
    conv => whnf
    refine ⟨_, Loads.one (by kernel_rfl) (hb.ld (List.getElem?_eq_getElem hi2)), ?_⟩
    conv => whnf
    refine vFall.append 5 1 1 rfl (by kernel_rfl) rfl (hrow.alloc _) rfl (Sl.new wr 5 1 [u8 l[i]] 1 rfl) (by simp [u8, Value.oneCell']) (by omega) (by omega) ?_
    intro A5 c5 F5 w5 hr5 ho5 hF5
    have hal := (Only.refl [] wr).alloc (.cells ⟨[u8 l[i]]⟩ 5)
    have e1 : IntKind.i64.wrap ((i : Int) + 1) = ((i + 1 : Nat) : Int) := by rw [wi64]; omega
    conv => whnf
    refine ⟨(i + 1, A5, c5), ⟨rfl, congrArg (Value.int .i64) e1, trivial⟩, ⟨by show i + 1 ≤ n; omega, F5, ?_, (ho.t0 hal).trans ho5 (fun x hx => .inr (hF x hx)), fun k hk => ?_⟩, by show n - (i + 1) < n - i; omega⟩
    · refine hr5.cast ?_
      show (l.take i).map u8 ++ [u8 l[i]] = (l.take (i + 1)).map u8
      rw [take_snoc' hi2, List.map_append]
      rfl
    · rcases hF5 k hk with h1 | h1
      · exact hF k h1
      · exact Nat.le_trans (ho.t0 hal).size h1
  · have ht : ¬ (i : Int) < (n : Int) := ht
    obtain rfl : i = n := by omega
    conv => whnf
    refine ⟨B, i, d, F, rfl, hrow.cast (by rw [List.take_of_length_le (by omega)]), ho, hF⟩
end Go.Proofs.YtofomopdaponbaaGreatDoor
