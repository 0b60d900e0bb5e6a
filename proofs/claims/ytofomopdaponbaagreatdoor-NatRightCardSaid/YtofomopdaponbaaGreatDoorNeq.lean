/-
  Structs and arrays of numbers, compared: addresses.
-/
import Derived.Test.YtofomopdaponbaaGreatDoorAp
import Derived.Test.YtofomopdaponbaaGreatDoorProg
import Derived.DeepKeys
namespace Go.Proofs.YtofomopdaponbaaGreatDoor
open Go.RowKit
set_option linter.unusedVariables false

/-- Two values of one type of numbers, bools and strings, each of which reads as a list of literals. -/
theorem Eql.deep {P : Program} {t : TypeId} {xo yo : Operand} {xs ys : List Value} {la lb : List Lit} {b : Bool} {D D' : Nat} (m : Nat) (hm : Nat.ble m 9999 = true) (hk : P.keyTypeAt m t = true) (hg : P.eqGuardType P.depth t = false)
    (fx : (Value.agg ⟨xs⟩).formed P t = true) (fy : (Value.agg ⟨ys⟩).formed P t = true)
    (ha : P.keyLits D t xs = some la) (hb : P.keyLits D' t ys = some lb) (hab : b = true ↔ la = lb) : Eql P t xo yo (.agg ⟨xs⟩) (.agg ⟨ys⟩) b := by
  have hle : m ≤ 9999 := Nat.le_of_ble_eq_true hm
  have key : ∀ w, (Op.equal t (.agg ⟨xs⟩) (.agg ⟨ys⟩)).run P w = .ok b w := by
    intro w
    have h := run_equalIn_deep (P := P) (10000 - m) m t hk
    obtain ⟨r, hr, hiff⟩ := h w D D' (.agg ⟨xs⟩) (.agg ⟨ys⟩) la lb fx fy ha hb
    rw [show 10000 - m + m = 10000 by omega] at hr
    have : r = b := by
      rw [Bool.eq_iff_iff, hiff, hab]
    subst this
    exact hr
  have guard : ∀ op w, (eqGuard op t xo yo (.agg ⟨xs⟩) (.agg ⟨ys⟩)).run P w = .ok () w := by
    intro op w
    unfold eqGuard
    cases op <;> first | rfl | (simp [Sem.run_bind, program, Sem.run, hg])
  refine ⟨fun w => ?_, fun w => ?_⟩
  · rw [Sem.run_bind, guard, Result.andThen_ok, show binOp .eql t (.agg ⟨xs⟩) (.agg ⟨ys⟩) = (do pure (.bool (← Op.equal t (.agg ⟨xs⟩) (.agg ⟨ys⟩)))) from rfl, Sem.run_bind, key]
    rfl
  · rw [Sem.run_bind, guard, Result.andThen_ok, show binOp .neq t (.agg ⟨xs⟩) (.agg ⟨ys⟩) = (do pure (.bool (!(← Op.equal t (.agg ⟨xs⟩) (.agg ⟨ys⟩))))) from rfl, Sem.run_bind, key]
    rfl
theorem formed_of {P : Program} {t : TypeId} {xs : List Value} (hw : (match P.underlying t with | some (.struct _) | some (.array _ _) => true | _ => false) = true) (hl : xs.length = P.cellsOf t) : (Value.agg ⟨xs⟩).formed P t = true := by
  unfold Value.formed
  split at hw <;> simp_all

/-- An address: its version, its bytes. -/
abbrev Ad := Int × List UInt8
def okAd (a : Ad) : Prop := -9223372036854775808 ≤ a.1 ∧ a.1 ≤ 9223372036854775807 ∧ a.2.length = 16
def adC (a : Ad) : List Value := .int .i64 a.1 :: a.2.map u8
def litB (c : UInt8) : Lit := .int .u8 (c.toNat : Int)
def adL (a : Ad) : List Lit := .int .i64 a.1 :: a.2.map litB
theorem adC_len {a : Ad} (h : okAd a) : (adC a).length = 17 := by simp [adC, h.2.2]
theorem litB_inj : Function.Injective litB := by
  intro a b h
  simp only [litB, Lit.int.injEq, true_and] at h
  exact UInt8.toNat_inj.1 (by omega)
theorem map_inj {α β : Type} {f : α → β} (hf : Function.Injective f) : ∀ {a b : List α}, a.map f = b.map f ↔ a = b := by
  intro a
  induction a with
  | nil => intro b; cases b <;> simp
  | cons x a ih =>
    intro b
    cases b with
    | nil => simp
    | cons y b =>
      simp only [List.map_cons, List.cons.injEq]
      exact ⟨fun ⟨h1, h2⟩ => ⟨hf h1, ih.1 h2⟩, fun ⟨h1, h2⟩ => ⟨by rw [h1], ih.2 h2⟩⟩
theorem adL_inj {a b : Ad} : adL a = adL b ↔ a = b := by
  obtain ⟨v, x⟩ := a
  obtain ⟨u, y⟩ := b
  simp only [adL, List.cons.injEq, Lit.int.injEq, true_and, Prod.mk.injEq]
  exact and_congr_right fun _ => map_inj litB_inj
theorem mapM_some_of {α β : Type} {f : α → Option β} {g : α → β} : ∀ (l : List α), (∀ x ∈ l, f x = some (g x)) → l.mapM f = some (l.map g)
  | [], _ => rfl
  | x :: l, h => by
    rw [List.mapM_cons, h x List.mem_cons_self, mapM_some_of l (fun y hy => h y (List.mem_cons_of_mem _ hy))]
    rfl
theorem keyLits_int {P : Program} {t : TypeId} {k : IntKind} {n : Int} {D : Nat} (hu : P.underlying t = some (.int k)) (hn : (Lit.int k n).wf = true) : P.keyLits (D + 1) t [.int k n] = some [.int k n] := by
  simp [Program.keyLits, hu, hn]
theorem u8_wf (c : UInt8) : (Lit.int .u8 (c.toNat : Int)).wf = true := by
  have := u8_le c
  simp [Lit.wf, IntKind.min, IntKind.max, IntKind.signed, IntKind.bits]
  omega
theorem i64_wf {x : Int} (h : -9223372036854775808 ≤ x) (h' : x ≤ 9223372036854775807) : (Lit.int .i64 x).wf = true := by
  simp [Lit.wf, IntKind.min, IntKind.max, IntKind.signed, IntKind.bits]
  omega
theorem flat1 (l : List UInt8) : (l.map (fun c => [litB c])).flatten = l.map litB := by
  induction l with
  | nil => rfl
  | cons c l ih => simp [ih]
theorem keyLits_bytes {P : Program} {t e : TypeId} {n D : Nat} (hu : P.underlying t = some (.array n e)) (he : P.underlying e = some (.int .u8)) (hc : P.cellsOf e = 1) (hn : P.cellsOf t = n) {l : List UInt8} (hl : l.length = n) :
    P.keyLits (D + 2) t (l.map u8) = some (l.map litB) := by
  unfold Program.keyLits
  simp only [hu]
  rw [if_pos (by simp [hl, hn])]
  rw [mapM_some_of (g := fun i => [litB (l.getD i 0)]) _ (fun i hi => by
    have hi' : i < l.length := by rw [hl]; exact List.mem_range.1 hi
    rw [hc, Nat.mul_one]
    have : ((l.map u8).drop i).take 1 = [u8 l[i]] := by
      rw [List.drop_eq_getElem_cons (by simpa using hi')]
      simp
    rw [this]
    simp only [List.getD_eq_getElem?_getD, List.getElem?_eq_getElem hi', Option.getD_some]
    exact keyLits_int he (u8_wf _))]
  simp only [Option.map_some, Option.some.injEq]
  have : (List.range n).map (fun i => [litB (l.getD i 0)]) = l.map (fun c => [litB c]) := by
    apply List.ext_getElem
    · simp [hl]
    · intro i h1 h2
      have hi' : i < l.length := by simpa using h2
      simp [List.getD_eq_getElem?_getD, List.getElem?_eq_getElem hi']
  rw [this, flat1]
theorem ad_lits {a : Ad} (h : okAd a) (D : Nat) : Tryz.prog.keyLits (D + 3) 24 (adC a) = some (adL a) := by
  obtain ⟨v, l⟩ := a
  obtain ⟨h1, h2, h3⟩ := h
  have c24 : Tryz.prog.cellsOf 24 = 17 := by kernel_rfl
  have c22 : Tryz.prog.cellsOf 22 = 16 := by kernel_rfl
  have c5 : Tryz.prog.cellsOf 5 = 1 := by kernel_rfl
  have c3 : Tryz.prog.cellsOf 3 = 1 := by kernel_rfl
  have kb := keyLits_bytes (P := Tryz.prog) (D := D) Tryz.underlying22 Tryz.underlying5 c5 c22 h3
  have ki := keyLits_int (P := Tryz.prog) (D := D + 1) Tryz.underlying3 (i64_wf h1 h2)
  unfold Program.keyLits
  simp only [Tryz.underlying24]
  rw [if_pos ⟨by rw [c24]; simp [adC, h3], by kernel_rfl⟩]
  simp only [List.mapM_cons, List.mapM_nil, c3, c22, adC, List.drop_zero, List.take_succ_cons, List.take_zero, List.drop_succ_cons, adL]
  rw [show (List.take 16 (l.map u8)) = l.map u8 from List.take_of_length_le (by simp at h3 ⊢; omega), kb, ki]
  simp
theorem eql_ad {a b : Ad} (ha : okAd a) (hb : okAd b) (xo yo : Operand) : Eql Tryz.prog 24 xo yo (.agg ⟨adC a⟩) (.agg ⟨adC b⟩) (decide (a = b)) :=
  Eql.deep 5 (by decide) (by kernel_rfl) (by kernel_rfl) (formed_of (by kernel_rfl) (by rw [adC_len ha]; kernel_rfl)) (formed_of (by kernel_rfl) (by rw [adC_len hb]; kernel_rfl)) (ad_lits ha 0) (ad_lits hb 0) (by rw [decide_eq_true_iff, adL_inj])
/-- Sixteen bytes. -/
theorem eql_b16 {x y : List UInt8} (hx : x.length = 16) (hy : y.length = 16) (xo yo : Operand) : Eql Tryz.prog 22 xo yo (.agg ⟨x.map u8⟩) (.agg ⟨y.map u8⟩) (decide (x = y)) := by
  have c22 : Tryz.prog.cellsOf 22 = 16 := by kernel_rfl
  have c5 : Tryz.prog.cellsOf 5 = 1 := by kernel_rfl
  exact Eql.deep 5 (by decide) (by kernel_rfl) (by kernel_rfl) (formed_of (by kernel_rfl) (by rw [c22]; simpa using hx)) (formed_of (by kernel_rfl) (by rw [c22]; simpa using hy))
    (keyLits_bytes (D := 0) Tryz.underlying22 Tryz.underlying5 c5 c22 hx) (keyLits_bytes (D := 0) Tryz.underlying22 Tryz.underlying5 c5 c22 hy) (by rw [decide_eq_true_iff, map_inj litB_inj])
end Go.Proofs.YtofomopdaponbaaGreatDoor
