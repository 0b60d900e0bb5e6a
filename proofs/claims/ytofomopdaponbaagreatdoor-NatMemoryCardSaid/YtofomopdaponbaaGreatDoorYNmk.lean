/-
  What a law does with lists that were told to it: each is written full with a mark of its own, 80 bytes are laid behind each (marked), and all hold their marks yet (still).
-/
import Derived.Test.YtofomopdaponbaaGreatDoorYNwd
import Derived.Test.YtofomopdaponbaaGreatDoorYNen
import Derived.Deep.DeepAppendRoom
namespace Go.Proofs.YtofomopdaponbaaGreatDoor
open Go.RowKit
set_option linter.unusedVariables false
set_option linter.unusedSimpArgs false

/-- append as vFall.append has it, and whether it was in place. -/
theorem vFall.append2 {P : Program} {o : Oper} {ρ : Operand → Value} {w : World} {K : Value → World → Prop} {x y : Operand} {t : TypeId} (e size bytes : Nat) {F G : List Nat} {A B : Option Addr} {n c m cc : Nat} {xs ys : List Value}
    (ho : o.op = .call { callee := .builtin .append, args := #[x, y], argTypes := #[t, t] }) (hok : sliceOk P t e size bytes = true)
    (hx : ρ x = .slice A n c) (hr : Row w e size F A n c xs) (hy : ρ y = .slice B m cc) (hs : Sl w size G B m ys) (h1 : ∀ u ∈ ys, u.oneCell' = true) (hm : 0 < m)
    (hbytes : (n + m) * bytes ≤ 140737488355328) (h63 : n + m ≤ 9223372036854775807)
    (hK : ∀ A' c' F' w', Row w' e size F' A' (n + m) c' (xs ++ ys) → (A' = A ∧ c' = c ∧ F' = F ∧ Only F w w') ∨ (Only [] w w' ∧ ∀ k ∈ F', w.heap.size ≤ k) → K (.slice A' (n + m) c') w') : vFall P o ρ w K := by
  obtain ⟨hu, hsz, i, z, hi, hz, e1, e2, e3⟩ := sliceOk_spec hok
  have hrun : ∀ v w', (Builtin.append_ #[t, t] o.type #[.slice A n c, .slice B m cc]).run P w = .ok v w' → (execOp ρ o).run P w = .ok (.value v) w' := by
    intro v w' h
    unfold execOp
    simp only [ho, resolve, invoke, builtin, Sem.run_bind, Sem.run_pure, Result.andThen_ok, List.map_toArray, List.map_cons, List.map_nil, hx, hy, h]
  obtain ⟨b, off, rfl, hG, hb, hc⟩ := hs.2 hm
  have h63' : n + m ≤ maxLen := by unfold maxLen; omega
  have hne : ∀ j u, ys[j]? = some u → w.cell? ((⟨b, off, none⟩ : Addr).add j) = some u := fun j u hu => by rw [add_plain]; exact hc j u hu
  rcases hr with ⟨rfl, rfl, rfl, rfl⟩ | ⟨g, rfl, rfl, hown⟩
  · cases A with
    | none =>
      obtain ⟨g, cap, w', hr, h2, h3, h4, _⟩ := run_append_lies (P := P) w t o.type 0 e i z size bytes hu hi hz e1 e2 e3 hsz (.slice none 0 0) 0 [] (World.ownsRow_nil w 0 e size) ⟨b, off, none⟩ m cc ys hs.1 hne h1 hm h63' hbytes (Nat.zero_le _) _ rfl
      refine ⟨_, _, ⟨hrun _ _ hr⟩, hK _ cap [g] w' (.inr ⟨g, rfl, rfl, h2⟩) (.inr ⟨Only.of_grown h3 (fun k hk => by cases hk), fun k hk => ?_⟩)⟩
      obtain rfl : k = g := by simpa using hk
      rcases h4 with h4 | h4
      · cases h4
      · omega
    | some b2 =>
      obtain ⟨v', w', hr, h2, h3⟩ := run_append_arg_grows (P := P) w t o.type e i z size bytes hu hi hz e1 e2 e3 hsz b2 0 0 [] (by simp) (fun j u hj => by simp at hj) ⟨b, off, none⟩ m cc ys hs.1 hne (by omega) h63' hbytes
      obtain ⟨g, cap, rfl, hb, _⟩ := h2.form (by omega)
      obtain ⟨hl2, hr2⟩ := h2
      have hh : w'.ownsRow 0 e size (.slice (some ⟨g, 0, none⟩) (0 + m) cap) (0 + m) ([] ++ ys) := by
        refine ⟨hl2, ?_⟩
        rcases hr2 with ⟨h, _⟩ | ⟨g', cap', cur, hv, _, rest⟩
        · cases h
        · exact .inr ⟨g', cap', cur, hv, Nat.zero_le _, rest⟩
      refine ⟨_, _, ⟨hrun _ _ hr⟩, hK _ cap [g] w' (.inr ⟨g, rfl, rfl, hh⟩) (.inr ⟨Only.of_grown h3 (fun k hk => by cases hk), fun k hk => ?_⟩)⟩
      obtain rfl : k = g := by simpa using hk
      exact hb
  · by_cases hroom : n + m ≤ c
    · obtain ⟨w', hr, h2, h3⟩ := run_append_own_spare (P := P) w 0 t o.type e i size hu hi e1 g n c xs hown ⟨b, off, none⟩ m cc ys hs.1 hne h1 hroom
      exact ⟨_, _, ⟨hrun _ _ hr⟩, hK _ c [g] w' (.inr ⟨g, rfl, rfl, h2⟩) (.inl ⟨rfl, rfl, rfl, Only.of_grown h3 (fun k hk => by injection hk with hk; simp [hk])⟩)⟩
    · have hro : Row w e size [g] (some ⟨g, 0, none⟩) n c xs := .inr ⟨g, rfl, rfl, hown⟩
      obtain ⟨v', w', hr, h2, h3⟩ := run_append_arg_grows (P := P) w t o.type e i z size bytes hu hi hz e1 e2 e3 hsz ⟨g, 0, none⟩ n c xs hown.1 (fun j u hj => by
        obtain ⟨g2, hA, _, hc2⟩ := hro.cellAt hj
        injection hA with hA
        injection hA with hA
        subst hA
        rw [add_plain, Nat.zero_add]
        exact hc2) ⟨b, off, none⟩ m cc ys hs.1 hne (by omega) h63' hbytes
      obtain ⟨g2, cap, rfl, hb, _⟩ := h2.form (by omega)
      obtain ⟨hl2, hr2⟩ := h2
      have hh : w'.ownsRow 0 e size (.slice (some ⟨g2, 0, none⟩) (n + m) cap) (n + m) (xs ++ ys) := by
        refine ⟨hl2, ?_⟩
        rcases hr2 with ⟨h, _⟩ | ⟨g', cap', cur, hv, _, rest⟩
        · cases h
        · exact .inr ⟨g', cap', cur, hv, Nat.zero_le _, rest⟩
      refine ⟨_, _, ⟨hrun _ _ hr⟩, hK _ cap [g2] w' (.inr ⟨g2, rfl, rfl, hh⟩) (.inr ⟨Only.of_grown h3 (fun k hk => by cases hk), fun k hk => ?_⟩)⟩
      obtain rfl : k = g2 := by simpa using hk
      exact hb

/-- Where a list of bytes lies. -/
structure Lst where
  A : Option Addr
  n : Nat
  c : Nat
  F : List Nat
def lsV (x : Lst) : Value := .slice x.A x.n x.c
def nilL : Lst := ⟨none, 0, 0, []⟩
/-- taken: the list, what was laid behind it, its mark. -/
structure Tk where
  b : Lst
  g : Lst
  m : UInt8
def tkC (x : Tk) : List Value := [.slice x.b.A x.b.n x.b.c, .slice x.g.A x.g.n x.g.c, u8 x.m]
theorem tkC_len (x : Tk) : (tkC x).length = 3 := rfl
theorem tkC_one (x : Tk) : ∀ u ∈ tkC x, isOne u = true := one_cons rfl (one_cons rfl (one_cons rfl one_nil))
def mkB (i : Nat) : UInt8 := UInt8.ofNat (1 + i % 250)
theorem mkB_val {i : Nat} (h : i ≤ 9223372036854775807) : IntKind.u8.wrap (IntKind.i64.wrap (1 + Int.tmod (i : Int) 250)) = ((mkB i).toNat : Int) := by
  have e1 : Int.tmod (i : Int) 250 = ((i % 250 : Nat) : Int) := by rw [Int.tmod_eq_emod_of_nonneg (by omega)]; omega
  have h2 : i % 250 < 250 := Nat.mod_lt _ (by decide)
  rw [e1, wi_id (by omega) (by omega)]
  unfold mkB
  rw [UInt8.toNat_ofNat', wr8]
  omega
def Full (w : World) (G : List Nat) (A : Option Addr) (n : Nat) (m : UInt8) : Prop := Bs w G A n (List.replicate n m)
theorem Full.only {w w' : World} {F G : List Nat} {A : Option Addr} {n : Nat} {m : UInt8} (h : Full w G A n m) (ho : Only F w w') (hd : ∀ k ∈ G, k ∉ F) : Full w' G A n m := Bs.only h ho hd
theorem addr_add0 (A : Option Addr) : A.map (·.add (0 * 1)) = A := by
  cases A with
  | none => rfl
  | some a =>
    obtain ⟨b, o, s⟩ := a
    cases s <;> rfl
theorem Full.first {w : World} {G : List Nat} {A : Option Addr} {n k : Nat} {m : UInt8} (h : Full w G A (n + k) m) : Full w G A n m := by
  have h2 := Bs.cut (lo := 0) (hi := n) (m := n + k) h (Nat.zero_le _) (by omega) (by omega) (A' := A) (by rw [addr_add0]; split <;> rfl)
  simpa [Full, List.take_replicate] using h2

set_option maxRecDepth 100000 in
theorem marked_does {w : World} {A : Option Addr} {G : List Nat} {c : Nat} {L : List Lst} (hL : Sl w 1 G A L.length (L.map lsV)) (hk : L.length ≤ 1000)
    (hR : ∀ (j : Nat) x, L[j]? = some x → x.n ≤ 1000000 ∧ (∀ k ∈ x.F, k ∉ G) ∧ ∃ l : List UInt8, Row w 5 1 x.F x.A x.n x.c (l.map u8))
    (hD : ∀ (i j : Nat) x y, L[i]? = some x → L[j]? = some y → i ≠ j → ∀ k ∈ x.F, k ∉ y.F) :
    Does Tryz.prog 30 [.slice A L.length c] w (fun v w' => ∃ (O : Option Addr) (d : Nat) (FO : List Nat) (z : List Tk), v = .slice O L.length d ∧ Row w' 141 3 FO O L.length d (z.flatMap tkC) ∧ z.length = L.length ∧ (∀ k ∈ FO, w.heap.size ≤ k) ∧ Only (L.flatMap (·.F)) w w' ∧
      ∀ (j : Nat) x, L[j]? = some x → ∃ (g : Lst) (Gj : List Nat), z[j]? = some ⟨x, g, mkB j⟩ ∧ g.n = x.n + 80 ∧ Full w' Gj x.A x.n (mkB j) ∧ Full w' Gj g.A g.n (mkB j) ∧ ∀ k ∈ Gj, k ∈ x.F ∨ w.heap.size ≤ k ∧ k < w'.heap.size) := by
  have hLF : ∀ (j : Nat) x, L[j]? = some x → ∀ k ∈ x.F, k ∈ L.flatMap (·.F) := fun j x hx k hk => List.mem_flatMap.2 ⟨x, List.mem_of_getElem? hx, hk⟩
  have hFG : ∀ k ∈ G, k ∉ L.flatMap (·.F) := fun k hk hm => by
    obtain ⟨x, hx, hk2⟩ := List.mem_flatMap.1 hm
    obtain ⟨j, hj⟩ := List.getElem?_of_mem hx
    exact (hR j x hj).2.1 k hk2 hk
  have hFlt : ∀ (j : Nat) x, L[j]? = some x → ∀ k ∈ x.F, k < w.heap.size := fun j x hx k hk => by
    obtain ⟨l, hl⟩ := (hR j x hx).2.2
    exact hl.lt k hk
  refine Does.enter (fn := Tryz.f30) (by kernel_rfl) rfl (by kernel_rfl) (by kernel_rfl) ?_
  conv => whnf
  refine VLoop.inv (α := Nat × Option Addr × Nat × List Nat × List Tk) [(3, 7), (9, 41)] (fun t => [(3, .slice t.2.1 t.1 t.2.2.1), (4, .int .i64 t.1)])
    (fun t w' => t.1 ≤ L.length ∧ Row w' 141 3 t.2.2.2.1 t.2.1 t.1 t.2.2.1 (t.2.2.2.2.flatMap tkC) ∧ t.2.2.2.2.length = t.1 ∧ (∀ (j : Nat) x, L[j]? = some x → j < t.1 → t.2.2.2.2[j]? = some ⟨x, nilL, mkB j⟩) ∧
      (∀ (j : Nat) x, L[j]? = some x → ∃ l : List UInt8, Row w' 5 1 x.F x.A x.n x.c (l.map u8) ∧ (j < t.1 → l = List.replicate x.n (mkB j))) ∧ (∀ k ∈ t.2.2.2.1, w.heap.size ≤ k) ∧ Only (L.flatMap (·.F)) w w')
    (fun t => L.length - t.1) (0, none, 0, [], []) (by kernel_rfl) ⟨rfl, rfl, trivial⟩ ⟨Nat.zero_le _, Row.nil _ _ _ _, rfl, fun j x _ h => absurd h (Nat.not_lt_zero _), fun j x hx => by
      obtain ⟨-, -, l, hl⟩ := hR j x hx
      exact ⟨l, hl, fun h => absurd h (Nat.not_lt_zero _)⟩, by simp, Only.refl _ _⟩ ?_
  rintro ⟨i, O, d, FO, z⟩ wr j ⟨hi, hrO, hzl, hz, hrow, hFO, ho⟩
  dsimp only at hi hrO hzl hz hrow hFO
  conv => whnf
  refine VIf.dec (fun ht => ?_) (fun ht => ?_)
  rotate_left
  · have ht : ¬ (i : Int) < (L.length : Int) := ht
    obtain rfl : i = L.length := by omega
    have hFOF : ∀ (j : Nat) x, L[j]? = some x → ∀ k ∈ x.F, k ∉ FO := fun j x hx k hk hm => by
      have h1 := hFO k hm
      have h2 := hFlt j x hx k hk
      omega
    conv => whnf
    refine VLoop.inv (α := Nat × List Tk) [(7, 9), (41, 76)] (fun t => [(7, .int .i64 t.1)])
      (fun t w' => t.1 ≤ L.length ∧ t.2.length = L.length ∧ Row w' 141 3 FO O L.length d (t.2.flatMap tkC) ∧
        (∀ (j : Nat) x, L[j]? = some x → (t.1 ≤ j → t.2[j]? = some ⟨x, nilL, mkB j⟩ ∧ Row w' 5 1 x.F x.A x.n x.c ((List.replicate x.n (mkB j)).map u8)) ∧
          (j < t.1 → ∃ (g : Lst) (Gj : List Nat), t.2[j]? = some ⟨x, g, mkB j⟩ ∧ g.n = x.n + 80 ∧ Full w' Gj x.A x.n (mkB j) ∧ Full w' Gj g.A g.n (mkB j) ∧ ∀ k ∈ Gj, k ∈ x.F ∨ wr.heap.size ≤ k ∧ k < w'.heap.size)) ∧
        Only (FO ++ L.flatMap (·.F)) wr w') (fun t => L.length - t.1) (0, z) (by kernel_rfl) ⟨rfl, trivial⟩ ⟨Nat.zero_le _, hzl, hrO, fun p x hx => ⟨fun _ => ?_, fun h => absurd h (Nat.not_lt_zero _)⟩, Only.refl _ _⟩ ?_
    · have hp : p < L.length := (List.getElem?_eq_some_iff.1 hx).1
      obtain ⟨l, h1, h2⟩ := hrow p x hx
      rw [h2 hp] at h1
      exact ⟨hz p x hx hp, h1⟩
    have hgl := hrO.lt
    clear hrO hz hrow hzl
    rintro ⟨i, z3⟩ ws js ⟨hi3, hzl3, hrO3, hall, ho3⟩
    dsimp only at hi3 hzl3 hrO3 hall
    have hw3 : Only (L.flatMap (·.F)) w ws := ho.trans ho3 (fun k hk => by
      rcases List.mem_append.1 hk with h | h
      · exact .inr (hFO k h)
      · exact .inl h)
    conv => whnf
    refine VIf.dec (fun ht3 => ?_) (fun ht3 => ?_)
    rotate_left
    · have ht3 : ¬ (i : Int) < (L.length : Int) := ht3
      obtain rfl : i = L.length := by omega
      conv => whnf
      refine ⟨O, d, FO, z3, rfl, hrO3, hzl3, hFO, hw3, fun p x hx => ?_⟩
      obtain ⟨g, Gj, h1, h2, h3, h4, h5⟩ := (hall p x hx).2 (List.getElem?_eq_some_iff.1 hx).1
      refine ⟨g, Gj, h1, h2, h3, h4, fun k hk => ?_⟩
      rcases h5 k hk with h | h
      · exact .inl h
      · exact .inr ⟨Nat.le_trans ho.size h.1, h.2⟩
    have ht3 : (i : Int) < (L.length : Int) := ht3
    have hi4 : i < L.length := by omega
    have hx : L[i]? = some L[i] := List.getElem?_eq_getElem hi4
    obtain ⟨hzi, hri⟩ := (hall i _ hx).1 (Nat.le_refl _)
    have hn0 := (hR i _ hx).1
    have hlt := hFlt i _ hx
    have hFl := hLF i _ hx
    have hFOx := hFOF i _ hx
    have hothers : ∀ (j : Nat) y, L[j]? = some y → j ≠ i → ∀ k ∈ y.F, k ∉ (L[i]).F := fun j y hy hne => hD j i y _ hy hx hne
    generalize hxe : L[i] = x at *
    obtain ⟨xA, xn, xc, xF⟩ := x
    dsimp only at hn0 hlt hFl hothers hri hFOx
    have ei : IntKind.i64.wrap ((i : Int) + 1) = ((i + 1 : Nat) : Int) := by rw [wi64]; omega
    have hiz : i < z3.length := by omega
    obtain ⟨gO, hgO, hFOg, hcl⟩ := hrO3.cellAt (j := i * 3 + 0) (u := .slice xA xn xc) (by
      rw [flat_get tkC_len z3 i 0 hiz (by decide)]
      rw [List.getElem?_eq_getElem hiz] at hzi
      rw [Option.some.inj hzi]
      rfl)
    subst hgO
    subst hFOg
    have hzi' : z3[i] = ⟨⟨xA, xn, xc, xF⟩, nilL, mkB i⟩ := by
      rw [List.getElem?_eq_getElem hiz] at hzi
      exact Option.some.inj hzi
    obtain ⟨hst, hr4, ho4⟩ := Row.putAt (P := Tryz.prog) (t := 38) (i := i) (j := 1) (x := ⟨⟨xA, xn, xc, xF⟩, ⟨xA, xn, xc, xF⟩, mkB i⟩) (v := .slice xA xn xc) hrO3 tkC_len (by kernel_rfl) rfl hiz hzl3 (by decide) (by rw [hzi']; rfl)
    conv => whnf
    refine ⟨_, _, rfl, i, 0 + i * 3, rfl, by omega, rfl, ?_⟩
    conv => whnf
    rw [Nat.zero_add]
    refine ⟨_, Loads.one (by kernel_rfl) hcl, ?_⟩
    conv => whnf
    refine ⟨_, _, rfl, i, 0 + i * 3, rfl, by omega, rfl, ?_⟩
    conv => whnf
    rw [Nat.zero_add]
    refine ⟨_, hst, ?_⟩
    have hri4 := hri.only ho4 (fun k hk hm => hFOx k hk hm)
    have hz4 : (ws.setCell ⟨gO, i * 3 + 1, none⟩ (.slice xA xn xc)).heap.size = ws.heap.size := World.size_setCell ws _ _
    generalize ws.setCell ⟨gO, i * 3 + 1, none⟩ (.slice xA xn xc) = w4 at *
    have hm4 : w4.heap.size = ws.heap.size := hz4
    conv => whnf
    refine VLoop.inv (α := Nat × Lst) [(8, 9), (56, 76)] (fun t => [(8, .int .i64 t.1)])
      (fun t w' => t.1 ≤ 80 ∧ t.2.n = xn + t.1 ∧ Row w' 5 1 t.2.F t.2.A t.2.n t.2.c ((List.replicate (xn + t.1) (mkB i)).map u8) ∧ Row w' 141 3 [gO] (some ⟨gO, 0, none⟩) L.length d ((z3.set i ⟨⟨xA, xn, xc, xF⟩, t.2, mkB i⟩).flatMap tkC) ∧
        ((t.2.A = xA ∧ t.2.c = xc ∧ t.2.F = xF) ∨ (Full w' xF xA xn (mkB i) ∧ ∀ k ∈ t.2.F, ws.heap.size ≤ k)) ∧ Only (gO :: xF) ws w') (fun t => 80 - t.1) (0, ⟨xA, xn, xc, xF⟩) (by kernel_rfl) ⟨rfl, trivial⟩ ⟨Nat.zero_le _, rfl, hri4, hr4, .inl ⟨rfl, rfl, rfl⟩, ho4.mono (fun k hk => .inl (by
          obtain rfl : k = gO := by simpa using hk
          simp))⟩ ?_
    clear hri4 hr4 ho4 hst hcl
    rintro ⟨q, g⟩ wq jq ⟨hq, hgn, hrg, hrt, hcase, hoq⟩
    dsimp only at hq hgn hrg hrt hcase
    have hgw : gO < wr.heap.size := hgl gO (by simp)
    have hwrs := ho3.size
    have hws := ho.size
    have hgF : gO ∉ g.F := fun hm => by
      rcases hcase with ⟨_, _, h⟩ | ⟨_, h⟩
      · rw [h] at hm
        exact hFOx gO hm (by simp)
      · have := h gO hm
        omega
    conv => whnf
    refine VIf.dec (fun htq => ?_) (fun htq => ?_)
    rotate_left
    · have htq : ¬ (q : Int) < 80 := htq
      obtain rfl : q = 80 := by omega
      have hB : Full wq xF xA xn (mkB i) := by
        rcases hcase with ⟨h1, h2, h3⟩ | ⟨h, _⟩
        · rw [h1, h3, hgn] at hrg
          exact Full.first (k := 80) (Row.bs hrg)
        · exact h
      have hG : Full wq g.F g.A g.n (mkB i) := by
        have := Row.bs hrg
        rw [← hgn] at this
        exact this
      have hsz := hoq.size
      conv => whnf
      refine ⟨(i + 1, z3.set i ⟨⟨xA, xn, xc, xF⟩, g, mkB i⟩), ⟨congrArg (Value.int .i64) ei, trivial⟩, ⟨by show i + 1 ≤ L.length; omega, by simp [hzl3], hrt, fun p y hy => ?_, ?_⟩, by show L.length - (i + 1) < L.length - i; omega⟩
      · by_cases hpi : p = i
        · subst hpi
          rw [hx] at hy
          obtain rfl := Option.some.inj hy
          refine ⟨fun h => absurd h (by show ¬ p + 1 ≤ p; omega), fun _ => ⟨g, xF ++ g.F, List.getElem?_set_self hiz, hgn, Bs.mono hB (fun k hk => List.mem_append_left _ hk), Bs.mono hG (fun k hk => List.mem_append_right _ hk), fun k hk => ?_⟩⟩
          rcases List.mem_append.1 hk with h | h
          · exact .inl h
          · rcases hcase with ⟨_, _, h3⟩ | ⟨_, h3⟩
            · rw [h3] at h
              exact .inl h
            · exact .inr ⟨by have := h3 k h; omega, hrg.lt k h⟩
        · obtain ⟨h1, h2⟩ := hall p y hy
          have hset : (z3.set i ⟨⟨xA, xn, xc, xF⟩, g, mkB i⟩)[p]? = z3[p]? := List.getElem?_set_ne (by omega)
          refine ⟨fun h => ?_, fun h => ?_⟩
          · obtain ⟨k1, k2⟩ := h1 (by have h : i + 1 ≤ p := h; omega)
            refine ⟨by show (z3.set i _)[p]? = _; rw [hset]; exact k1, k2.only hoq (fun k hk hm => ?_)⟩
            rcases List.mem_cons.1 hm with rfl | hm
            · exact hFOF p y hy _ hk (by simp)
            · exact hothers p y hy hpi k hk hm
          · obtain ⟨g2, Gj, k1, k2, k3, k4, k5⟩ := h2 (by have h : p < i + 1 := h; omega)
            have hd : ∀ k ∈ Gj, k ∉ gO :: xF := fun k hk hm => by
              rcases List.mem_cons.1 hm with rfl | hm
              · rcases k5 _ hk with h | h
                · exact hFOF p y hy _ h (by simp)
                · omega
              · rcases k5 k hk with h | h
                · exact hothers p y hy hpi k h hm
                · have := hlt k hm
                  omega
            refine ⟨g2, Gj, by show (z3.set i _)[p]? = _; rw [hset]; exact k1, k2, k3.only hoq hd, k4.only hoq hd, fun k hk => ?_⟩
            rcases k5 k hk with h | h
            · exact .inl h
            · exact .inr ⟨h.1, by omega⟩
      · exact ho3.trans hoq (fun k hk => by
          rcases List.mem_cons.1 hk with rfl | h
          · exact .inl (by simp)
          · exact .inl (List.mem_append_right _ (hFl k h)))
    have htq : (q : Int) < 80 := htq
    have eq1 : IntKind.i64.wrap ((q : Int) + 1) = ((q + 1 : Nat) : Int) := by rw [wi64]; omega
    have hcell : ∀ {w' : World} {j : Nat} {v : Value}, Row w' 141 3 [gO] (some ⟨gO, 0, none⟩) L.length d ((z3.set i ⟨⟨xA, xn, xc, xF⟩, g, mkB i⟩).flatMap tkC) → j < 3 → (tkC ⟨⟨xA, xn, xc, xF⟩, g, mkB i⟩)[j]? = some v → w'.cell? ⟨gO, i * 3 + j, none⟩ = some v := fun {w' j v} h hj hv => by
      obtain ⟨g2, h1, _, h2⟩ := h.cellAt (j := i * 3 + j) (u := v) (by
        rw [flat_get tkC_len _ i j (by simpa using hiz) hj, List.getElem_set_self]
        exact hv)
      injection h1 with h1
      injection h1 with h1
      subst h1
      exact h2
    conv => whnf
    refine VDraw.abs fun N2 hN2 => ?_
    refine VDraw.ahead 16 (fun w' => True) (fun w' => Row w' 141 3 [gO] (some ⟨gO, 0, none⟩) L.length d ((z3.set i ⟨⟨xA, xn, xc, xF⟩, g, mkB i⟩).flatMap tkC)) [0, 1, 2, 3, 4, 5, 6, 7, 8, 9, 10, 11, 12, 13, 14, 15, 16] (by kernel_rfl) (by kernel_rfl) trivial hrt.drew ?_
    conv => whnf
    refine ⟨_, _, rfl, i, 0 + i * 3, rfl, by omega, rfl, ?_⟩
    conv => whnf
    rw [Nat.zero_add]
    refine ⟨_, fun w' hw' => Loads.one (by kernel_rfl) (hcell hw'.2 (by decide) rfl), ?_⟩
    conv => whnf
    refine ⟨_, _, rfl, i, 0 + i * 3, rfl, by omega, rfl, ?_⟩
    conv => whnf
    rw [Nat.zero_add]
    refine ⟨_, fun w' hw' => Loads.one (by kernel_rfl) (hcell hw'.2 (by decide) rfl), ?_⟩
    conv => whnf
    refine ⟨⟨trivial, fun _ => hrt.drew.alloc _⟩, ?_⟩
    conv => whnf
    refine vFall.append2 5 1 1 rfl (by kernel_rfl) rfl (hrg.drew.alloc _) rfl (Sl.new wq.drew 5 1 [u8 (mkB i)] 1 rfl) (by simp [u8, Value.oneCell']) (by decide) (by show (g.n + 1) * 1 ≤ 140737488355328; omega) (by show g.n + 1 ≤ 9223372036854775807; omega) ?_
    intro A5 c5 F5 w5 hr5 h5
    have hal := (Only.refl [] wq.drew).alloc (.cells ⟨[u8 (mkB i)]⟩ 5)
    have hqg : Only g.F wq w5 := by
      rcases h5 with ⟨_, _, _, h⟩ | ⟨h, _⟩
      · exact ((Only.refl [] wq).drew.t0 hal).zf h
      · exact ((Only.refl [] wq).drew.t0 hal).up.f0 h
    have hrt5 := hrt.only hqg (fun k hk hm => by
      obtain rfl : k = gO := by simpa using hk
      exact hgF hm)
    refine ⟨⟨trivial, fun _ => hrt5⟩, ?_⟩
    conv => whnf
    refine ⟨_, _, rfl, i, 0 + i * 3, rfl, by omega, rfl, ?_⟩
    obtain ⟨hst, hrt6, ho6⟩ := Row.putAt (P := Tryz.prog) (t := 38) (i := i) (j := 1) (x := ⟨⟨xA, xn, xc, xF⟩, ⟨A5, g.n + 1, c5, F5⟩, mkB i⟩) (v := .slice A5 (g.n + 1) c5) hrt5 tkC_len (by kernel_rfl) rfl (by simpa using hiz) (by simpa using hzl3) (by decide) (by rw [List.getElem_set_self]; rfl)
    conv => whnf
    rw [Nat.zero_add]
    refine ⟨_, hst, ?_⟩
    refine ⟨⟨trivial, fun h => Bool.noConfusion h⟩, ?_⟩
    refine hN2 _ _ ?_
    rw [List.set_set] at hrt6
    have hF5 : gO ∉ F5 := fun hm => by
      rcases h5 with ⟨_, _, h, _⟩ | ⟨_, h⟩
      · rw [h] at hm
        exact hgF hm
      · have h1 := Nat.le_trans hal.size (h _ hm)
        have h3 := hoq.size
        have h4 : wq.drew.heap.size = wq.heap.size := rfl
        omega
    have hr6 := hr5.only ho6 (fun k hk hm => by
      obtain rfl : k = gO := by simpa using hm
      exact hF5 hk)
    conv => whnf
    refine ⟨(q + 1, ⟨A5, g.n + 1, c5, F5⟩), ⟨congrArg (Value.int .i64) eq1, trivial⟩, ⟨by show q + 1 ≤ 80; omega, by show g.n + 1 = xn + (q + 1); omega, hr6.cast (by rw [show xn + (q + 1) = xn + q + 1 by omega, List.replicate_succ', List.map_append]; rfl), hrt6, ?_, ?_⟩, by show 80 - (q + 1) < 80 - q; omega⟩
    · rcases h5 with ⟨h1, h2, h3, h4⟩ | ⟨h1, h2⟩
      · rcases hcase with ⟨k1, k2, k3⟩ | ⟨k1, k2⟩
        · exact .inl ⟨h1.trans k1, h2.trans k2, h3.trans k3⟩
        · refine .inr ⟨((k1.only (Only.refl [] wq).drew (by simp)).only (hal.zf h4) (fun k hk hm => ?_)).only ho6 (fun k hk hm => hFOx k hk hm), fun k hk => k2 k (by
            have hk : k ∈ F5 := hk
            rw [h3] at hk
            exact hk)⟩
          have h6 := k2 k hm
          have h7 := hlt k hk
          omega
      · have hfw : Only [] wq w5 := (Only.refl [] wq).drew.t0 (hal.t0 h1)
        refine .inr ⟨?_, fun k hk => ?_⟩
        · refine Full.only (F := [gO]) ?_ ho6 (fun k hk hm => hFOx k hk hm)
          rcases hcase with ⟨k1, k2, k3⟩ | ⟨k1, k2⟩
          · rw [k1, k3, hgn] at hrg
            exact Full.only (Full.first (k := q) (Row.bs hrg)) hfw (by simp)
          · exact Full.only k1 hfw (by simp)
        · have h3 := Nat.le_trans hal.size (h2 k hk)
          have h5 := hoq.size
          have h6 : wq.drew.heap.size = wq.heap.size := rfl
          omega
    · refine (hoq.trans hqg (fun k hk => ?_)).trans ho6 (fun k hk => .inl (by
        obtain rfl : k = gO := by simpa using hk
        simp))
      rcases hcase with ⟨_, _, h3⟩ | ⟨_, h3⟩
      · rw [h3] at hk
        exact .inl (List.mem_cons_of_mem _ hk)
      · exact .inr (h3 k hk)
  have ht : (i : Int) < (L.length : Int) := ht
  have hi2 : i < L.length := by omega
  have hx : L[i]? = some L[i] := List.getElem?_eq_getElem hi2
  obtain ⟨l0, hr0, -⟩ := hrow i _ hx
  have hn0 := (hR i _ hx).1
  have hlt := hFlt i _ hx
  have hFl := hLF i _ hx
  have hLr := hL.only ho hFG
  obtain ⟨b, off, rfl, -⟩ := hLr.some_ (by omega)
  have hld : wr.cell? ⟨b, off + i, none⟩ = some (lsV L[i]) := hLr.ld (by rw [List.getElem?_map, hx]; rfl)
  have hothers : ∀ (j : Nat) y, L[j]? = some y → j ≠ i → ∀ k ∈ y.F, k ∉ (L[i]).F := fun j y hy hne => hD j i y _ hy hx hne
  generalize hxe : L[i] = x at *
  obtain ⟨xA, xn, xc, xF⟩ := x
  dsimp only at hn0 hlt hFl hothers hr0
  have ei : IntKind.i64.wrap ((i : Int) + 1) = ((i + 1 : Nat) : Int) := by rw [wi64]; omega
  have em := mkB_val (i := i) (by omega)
  conv => whnf
  refine ⟨_, _, rfl, i, off + i, rfl, by omega, p1 _ _, ?_⟩
  conv => whnf
  refine ⟨_, Loads.one (by kernel_rfl) hld, ?_⟩
  conv => whnf
  rw [em]
  refine vStore.fresh (cs := tkC ⟨⟨xA, xn, xc, xF⟩, nilL, mkB i⟩) (by kernel_rfl) (by kernel_rfl) (tkC_one _) (fun wa b5 hoa hza => ?_)
  have h5F : wr.heap.size ∉ xF := fun hm => by
    have h1 := hlt _ hm
    have h2 := ho.size
    omega
  have hra := hr0.only hoa (by simp)
  have hl0 : l0.length = xn := by have := hr0.len; simpa using this
  conv => whnf
  refine VLoop.inv (α := Nat × List UInt8) [(6, 7), (24, 37)] (fun t => [(6, .int .i64 t.1)]) (fun t w' => t.1 ≤ xn ∧ t.2.length = xn ∧ (∀ p, p < t.1 → t.2[p]? = some (mkB i)) ∧ Row w' 5 1 xF xA xn xc (t.2.map u8) ∧ Only xF wa w') (fun t => xn - t.1) (0, l0) (by kernel_rfl) ⟨rfl, trivial⟩ ⟨Nat.zero_le _, hl0, fun p h => absurd h (Nat.not_lt_zero _), hra, Only.refl _ _⟩ ?_
  rintro ⟨q, l⟩ wq jq ⟨hq, hll, hlq, hrq, hoq⟩
  dsimp only at hq hll hlq hrq
  have b5q := b5.only hoq h5F
  conv => whnf
  refine ⟨_, Loads.one (by kernel_rfl) (b5q.at (i := 0) rfl), ?_⟩
  conv => whnf
  refine VIf.dec (fun htq => ?_) (fun htq => ?_)
  · have htq : (q : Int) < (xn : Int) := htq
    have eq1 : IntKind.i64.wrap ((q : Int) + 1) = ((q + 1 : Nat) : Int) := by rw [wi64]; omega
    obtain ⟨g, rfl, rfl, hfz, ⟨u, hu⟩, hput⟩ := hrq.put (v := u8 (mkB i)) (i := q) (by omega)
    conv => whnf
    refine ⟨_, Loads.one (by kernel_rfl) (b5q.at (i := 0) rfl), ?_⟩
    conv => whnf
    refine ⟨_, Loads.one (by kernel_rfl) (b5q.at (i := 2) rfl), ?_⟩
    conv => whnf
    refine ⟨_, _, rfl, q, 0 + q, rfl, by omega, p1 _ _, ?_⟩
    conv => whnf
    rw [Nat.zero_add]
    refine ⟨_, Stores.one (by kernel_rfl) rfl hu hfz, ?_⟩
    conv => whnf
    refine ⟨(q + 1, l.set q (mkB i)), ⟨congrArg (Value.int .i64) eq1, trivial⟩, ⟨by show q + 1 ≤ xn; omega, by simp [hll], fun p hp => ?_, hput.cast (by rw [List.map_set]), hoq.ff ((Only.refl [g] wq).put (.inl (by simp)))⟩, by show xn - (q + 1) < xn - q; omega⟩
    by_cases hpq : p = q
    · subst hpq
      exact List.getElem?_set_self (by omega)
    · rw [List.getElem?_set_ne (by omega)]
      exact hlq p (by have : p < q + 1 := hp; omega)
  have htq : ¬ (q : Int) < (xn : Int) := htq
  obtain rfl : q = xn := by omega
  have hfull : l = List.replicate q (mkB i) := List.ext_getElem? fun p => by
    by_cases hp : p < q
    · rw [hlq p hp, List.getElem?_replicate, if_pos hp]
    · rw [List.getElem?_eq_none (by omega), List.getElem?_eq_none (by simp; omega)]
  have hrxa : Only xF wr wq := hoa.zf hoq
  have hrOq := hrO.only hrxa (fun k hk hm => by
    have h1 := hFO k hk
    have h2 := hlt k hm
    omega)
  conv => whnf
  refine ⟨_, Loads.all b5q (by kernel_rfl) (by kernel_rfl), ?_⟩
  conv => whnf
  refine vFall.append 141 3 56 rfl (by kernel_rfl) rfl (hrOq.alloc _) rfl (Sl.new wq 141 3 (tkC ⟨⟨xA, q, xc, xF⟩, nilL, mkB i⟩) 1 rfl) (fun u hu => cell_of_one (tkC_one _ u hu)) (by omega) (by omega) ?_
  intro A5 c5 F5 w5 hr5 ho5 hF5
  have hal := (Only.refl [] wq).alloc (.cells ⟨tkC ⟨⟨xA, q, xc, xF⟩, nilL, mkB i⟩⟩ 141)
  have hq5 : Only FO wq w5 := hal.zf ho5
  conv => whnf
  refine ⟨(i + 1, A5, c5, F5, z ++ [⟨⟨xA, q, xc, xF⟩, nilL, mkB i⟩]), ⟨rfl, congrArg (Value.int .i64) ei, trivial⟩, ⟨by show i + 1 ≤ L.length; omega, hr5.cast (by simp [List.flatMap_append]), by simp [hzl], ?_, ?_, ?_, ?_⟩, by show L.length - (i + 1) < L.length - i; omega⟩
  · intro p y hy hp
    have hp : p < i + 1 := hp
    show (z ++ [_])[p]? = _
    by_cases hpi : p = i
    · subst hpi
      rw [List.getElem?_append_right (by omega), hzl, Nat.sub_self]
      rw [hx] at hy
      obtain rfl := Option.some.inj hy
      rfl
    · rw [List.getElem?_append_left (by omega)]
      exact hz p y hy (by omega)
  · intro p y hy
    by_cases hpi : p = i
    · subst hpi
      rw [hx] at hy
      obtain rfl := Option.some.inj hy
      exact ⟨l, hrq.only hq5 (fun k hk hm => by
        have h1 := hFO k hm
        have h2 := hlt k hk
        omega), fun _ => hfull⟩
    · obtain ⟨ly, h1, h2⟩ := hrow p y hy
      refine ⟨ly, (h1.only hrxa (hothers p y hy hpi)).only hq5 (fun k hk hm => by
        have h3 := hFO k hm
        have h4 := hFlt p y hy k hk
        omega), fun h => h2 (by have h : p < i + 1 := h; omega)⟩
  · intro k hk
    rcases hF5 k hk with h | h
    · exact hFO k h
    · have h1 := hrxa.size
      have h2 := ho.size
      exact Nat.le_trans (by omega) (Nat.le_trans hal.size h)
  · exact (ho.trans hrxa (fun k hk => .inl (hFl k hk))).trans hq5 (fun k hk => .inr (hFO k hk))

set_option maxRecDepth 100000 in
theorem still_does {w : World} {G : List Nat} {O : Option Addr} {c : Nat} {z : List Tk} (hz : Sl w 3 G O z.length (z.flatMap tkC))
    (h : ∀ x ∈ z, x.g.n ≤ 9223372036854775806 ∧ (∃ G1, Full w G1 x.b.A x.b.n x.m) ∧ ∃ G2, Full w G2 x.g.A x.g.n x.m) (hl : z.length ≤ 9223372036854775806) :
    Does Tryz.prog 31 [.slice O z.length c] w (fun v w' => v = .bool true ∧ Only [] w w') := by
  refine Does.enter (fn := Tryz.f31) (by kernel_rfl) rfl (by kernel_rfl) (by kernel_rfl) ?_
  conv => whnf
  refine VLoop.inv (α := Nat) [(2, 3), (3, 5), (5, 61)] (fun t => [(3, .int .i64 t)]) (fun t w' => t ≤ z.length ∧ Only [] w w') (fun t => z.length - t) 0 (by kernel_rfl) ⟨rfl, trivial⟩ ⟨Nat.zero_le _, Only.refl _ _⟩ ?_
  rintro i wr j ⟨hi, ho⟩
  conv => whnf
  refine VIf.dec (fun ht => ?_) (fun ht => ?_)
  rotate_left
  · conv => whnf
    exact ⟨rfl, ho⟩
  have ht : (i : Int) < (z.length : Int) := ht
  have hi2 : i < z.length := by omega
  have ei : IntKind.i64.wrap ((i : Int) + 1) = ((i + 1 : Nat) : Int) := by rw [wi64]; omega
  obtain ⟨hgn, ⟨G1, hb⟩, ⟨G2, hg⟩⟩ := h z[i] (List.getElem_mem hi2)
  obtain ⟨b, off, rfl, -⟩ := hz.some_ (by omega)
  have hcell : ∀ {w' : World} {p : Nat} {v : Value}, Only [] w w' → p < 3 → (tkC z[i])[p]? = some v → w'.cell? ⟨b, off + i * 3 + p, none⟩ = some v := fun {w' p v} h hp hv => by
    have := (hz.o h).ld (k := i * 3 + p) (v := v) (by rw [flat_get tkC_len z i p hi2 hp]; exact hv)
    rw [← Nat.add_assoc] at this
    exact this
  generalize z[i] = x at *
  conv => whnf
  refine VLoop.inv (α := Nat) [(2, 3), (4, 5), (11, 61)] (fun t => [(4, .int .i64 t)]) (fun t w' => t ≤ x.g.n ∧ Only [] w w') (fun t => x.g.n - t) 0 (by kernel_rfl) ⟨rfl, trivial⟩ ⟨Nat.zero_le _, ho⟩ ?_
  rintro q wq jq ⟨hq, hoq⟩
  conv => whnf
  refine ⟨_, _, rfl, i, off + i * 3, rfl, by omega, rfl, ?_⟩
  conv => whnf
  refine ⟨_, Loads.one (by kernel_rfl) (hcell hoq (by decide) rfl), ?_⟩
  conv => whnf
  refine VIf.dec (fun htq => ?_) (fun htq => ?_)
  rotate_left
  · conv => whnf
    exact ⟨i + 1, ⟨congrArg (Value.int .i64) ei, trivial⟩, ⟨by omega, hoq⟩, by omega⟩
  have htq : (q : Int) < (x.g.n : Int) := htq
  have eq1 : IntKind.i64.wrap ((q : Int) + 1) = ((q + 1 : Nat) : Int) := by rw [wi64]; omega
  have hgq := Bs.o hg hoq
  have hbq := Bs.o hb hoq
  obtain ⟨bg, og, eg, -⟩ := hgq.some_ (by omega)
  have hgc : ∀ w', Only [] wq w' → w'.cell? ⟨bg, og + q, none⟩ = some (u8 x.m) := fun w' ho' => by
    rw [eg] at hgq
    exact (hgq.o ho').ld (by rw [List.getElem?_replicate, if_pos (by omega)])
  conv => whnf
  refine VDraw.abs fun N2 hN2 => ?_
  refine VDraw.q (by kernel_rfl) (by kernel_rfl) ?_
  conv => whnf
  refine ⟨_, _, rfl, i, off + i * 3, rfl, by omega, rfl, ?_⟩
  conv => whnf
  refine ⟨_, fun w' hw' => Loads.one (by kernel_rfl) (hcell (hoq.t0 hw') (by decide) rfl), ?_⟩
  rw [eg]
  conv => whnf
  refine ⟨_, _, rfl, q, og + q, rfl, by omega, p1 _ _, ?_⟩
  conv => whnf
  refine ⟨_, fun w' hw' => Loads.one (by kernel_rfl) (hgc w' hw'), ?_⟩
  conv => whnf
  refine ⟨_, _, rfl, i, off + i * 3, rfl, by omega, rfl, ?_⟩
  conv => whnf
  refine ⟨_, fun w' hw' => Loads.one (by kernel_rfl) (hcell (hoq.t0 hw') (by decide) rfl), ?_⟩
  conv => whnf
  refine VIf.ne (fun h => (h rfl).elim) (fun _ => ?_)
  conv => whnf
  refine ⟨_, _, rfl, i, off + i * 3, rfl, by omega, rfl, ?_⟩
  conv => whnf
  refine ⟨_, fun w' hw' => Loads.one (by kernel_rfl) (hcell (hoq.t0 hw') (by decide) rfl), ?_⟩
  conv => whnf
  refine VIf.dec (fun hqb => ?_) (fun hqb => ?_)
  · have hqb : (q : Int) < (x.b.n : Int) := hqb
    obtain ⟨bb, ob, eb, -⟩ := hbq.some_ (by omega)
    have hbc : ∀ w', Only [] wq w' → w'.cell? ⟨bb, ob + q, none⟩ = some (u8 x.m) := fun w' ho' => by
      rw [eb] at hbq
      exact (hbq.o ho').ld (by rw [List.getElem?_replicate, if_pos (by omega)])
    conv => whnf
    refine ⟨_, _, rfl, i, off + i * 3, rfl, by omega, rfl, ?_⟩
    conv => whnf
    refine ⟨_, fun w' hw' => Loads.one (by kernel_rfl) (hcell (hoq.t0 hw') (by decide) rfl), ?_⟩
    rw [eb]
    conv => whnf
    refine ⟨_, _, rfl, q, ob + q, rfl, by omega, p1 _ _, ?_⟩
    conv => whnf
    refine ⟨_, fun w' hw' => Loads.one (by kernel_rfl) (hbc w' hw'), ?_⟩
    conv => whnf
    refine ⟨_, _, rfl, i, off + i * 3, rfl, by omega, rfl, ?_⟩
    conv => whnf
    refine ⟨_, fun w' hw' => Loads.one (by kernel_rfl) (hcell (hoq.t0 hw') (by decide) rfl), ?_⟩
    conv => whnf
    intro wz hoz
    refine hN2 _ _ ?_
    refine vc.no (congrArg Value.bool (bne_self_eq_false (x.m.toNat : Int))) ?_
    refine vc.skip ?_
    conv => whnf
    exact ⟨q + 1, ⟨congrArg (Value.int .i64) eq1, trivial⟩, ⟨by omega, hoq.t0 hoz⟩, by omega⟩
  · conv => whnf
    intro wz hoz
    refine hN2 _ _ ?_
    refine vc.no rfl ?_
    refine vc.skip ?_
    conv => whnf
    exact ⟨q + 1, ⟨congrArg (Value.int .i64) eq1, trivial⟩, ⟨by omega, hoq.t0 hoz⟩, by omega⟩
/-- The lists that were told hold their marks, in blocks below b that are none of F. -/
def Marks (w : World) (F : List Nat) (b : Nat) (L : List Lst) (z : List Tk) : Prop :=
  ∀ (j : Nat) x, L[j]? = some x → ∃ (g : Lst) (Gj : List Nat), z[j]? = some ⟨x, g, mkB j⟩ ∧ g.n = x.n + 80 ∧ Full w Gj x.A x.n (mkB j) ∧ Full w Gj g.A g.n (mkB j) ∧ ∀ k ∈ Gj, k ∉ F ∧ k < b
theorem Marks.go {w w' : World} {F F' E : List Nat} {b : Nat} {L : List Lst} {z : List Tk} (h : Marks w F b L z) (ho : Only E w w') (hE : ∀ k ∈ E, k ∈ F ∨ b ≤ k) (hF : ∀ k ∈ F', k ∈ F ∨ b ≤ k) : Marks w' F' b L z := fun j x hx => by
  obtain ⟨g, Gj, h1, h2, h3, h4, h5⟩ := h j x hx
  have hd : ∀ k ∈ Gj, k ∉ E := fun k hk hm => by
    obtain ⟨k1, k2⟩ := h5 k hk
    rcases hE k hm with h | h
    · exact k1 h
    · omega
  refine ⟨g, Gj, h1, h2, h3.only ho hd, h4.only ho hd, fun k hk => ?_⟩
  obtain ⟨k1, k2⟩ := h5 k hk
  refine ⟨fun hm => ?_, k2⟩
  rcases hF k hm with h | h
  · exact k1 h
  · omega
theorem Marks.still {w : World} {F : List Nat} {b : Nat} {L : List Lst} {z : List Tk} (h : Marks w F b L z) (hz : z.length = L.length) (hn : ∀ x ∈ L, x.n ≤ 1000000) :
    ∀ x ∈ z, x.g.n ≤ 9223372036854775806 ∧ (∃ G1, Full w G1 x.b.A x.b.n x.m) ∧ ∃ G2, Full w G2 x.g.A x.g.n x.m := fun y hy => by
  obtain ⟨j, hj, rfl⟩ := List.getElem_of_mem hy
  have hx : L[j]? = some (L[j]'(by omega)) := List.getElem?_eq_getElem (by omega)
  obtain ⟨g, Gj, h1, h2, h3, h4, -⟩ := h j _ hx
  have hb := hn _ (List.getElem_mem (show j < L.length by omega))
  rw [List.getElem?_eq_getElem hj] at h1
  rw [Option.some.inj h1]
  exact ⟨by show g.n ≤ _; omega, ⟨Gj, h3⟩, ⟨Gj, h4⟩⟩
end Go.Proofs.YtofomopdaponbaaGreatDoor
