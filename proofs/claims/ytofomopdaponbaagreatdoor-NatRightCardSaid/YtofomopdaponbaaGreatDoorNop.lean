/-
  Options (package opts): their shapes, whether bytes are options; the first place at which something holds (package slices).
-/
import Derived.Test.YtofomopdaponbaaGreatDoorNw
namespace Go.Proofs.YtofomopdaponbaaGreatDoor
open Go.RowKit
set_option linter.unusedVariables false

/-- The table of shapes. -/
def Shp (w : World) : Prop := w.cell? ⟨1, 0, none⟩ = some (.int .i64 1) ∧ w.cell? ⟨1, 1, none⟩ = some (.int .i64 2)
theorem Shp.only {w w' : World} {F : List Nat} (h : Shp w) (ho : Only F w w') (hF : 1 ∉ F) : Shp w' := ⟨ho.cell h.1 hF, ho.cell h.2 hF⟩
theorem Shp.o {w w' : World} (h : Shp w) (ho : Only [] w w') : Shp w' := h.only ho (by simp)
def shapeI (k : Nat) : Int := if k = 0 then 1 else if k = 1 then 2 else 0
set_option maxRecDepth 100000 in
theorem shape_does {w : World} {k : Nat} (h : Shp w) : Does Tryz.prog 209 [.int .i64 k] w (fun v w' => v = .int .i64 (shapeI k) ∧ w = w') := by
  refine Does.enter (fn := Tryz.f209) (by kernel_rfl) rfl (by kernel_rfl) (by kernel_rfl) ?_
  conv => whnf
  refine VIf.dec (fun ht => ?_) (fun ht => ?_)
  · conv => whnf
    refine ⟨k, k, rfl, by omega, p0 _, ?_⟩
    conv => whnf
    have hk : k = 0 ∨ k = 1 := by omega
    rcases hk with rfl | rfl
    · refine ⟨_, Loads.one (by kernel_rfl) h.1, ?_⟩
      conv => whnf
      exact ⟨rfl, rfl⟩
    · refine ⟨_, Loads.one (by kernel_rfl) h.2, ?_⟩
      conv => whnf
      exact ⟨rfl, rfl⟩
  · conv => whnf
    refine ⟨congrArg (Value.int IntKind.i64) ?_, rfl⟩
    unfold shapeI
    rw [if_neg (by omega), if_neg (by omega)]

/-- The first place at which something holds; -1: there is none. -/
def idxI {α : Type} (p : α → Bool) (z : List α) : Int := match z.findIdx? p with | some i => (i : Int) | none => -1
theorem idx_here {α : Type} {p : α → Bool} {z : List α} {i : Nat} (hi : i < z.length) (h0 : ∀ j (hj : j < i), p (z[j]'(Nat.lt_trans hj hi)) = false) (h1 : p z[i] = true) : idxI p z = (i : Int) := by
  unfold idxI
  rw [List.findIdx?_eq_some_iff_getElem.2 ⟨hi, h1, fun j hj => by rw [h0 j hj]; simp⟩]
theorem idx_none {α : Type} {p : α → Bool} {z : List α} (h0 : ∀ x ∈ z, p x = false) : idxI p z = -1 := by
  unfold idxI
  rw [List.findIdx?_eq_none_iff.2 h0]
set_option maxRecDepth 100000 in
theorem indexB_does {w : World} {G : List Nat} {A : Option Addr} {n c : Nat} {l : List UInt8} {g : FuncId} {first cap : Array Value} {p : UInt8 → Bool} (h : Bs w G A n l) (hn : n ≤ 9223372036854775807)
    (hp : ∀ x ∈ l, ∀ w', Only [] w w' → Does Tryz.prog g (first.toList ++ [u8 x] ++ cap.toList) w' (fun v w2 => v = .bool (p x) ∧ Only [] w' w2)) :
    Does Tryz.prog 251 [.slice A n c, .func (.func g) first cap] w (fun v w' => v = .int .i64 (idxI p l) ∧ Only [] w w') := by
  have hl := h.len
  refine Does.enter (fn := Tryz.f251) (by kernel_rfl) rfl (by kernel_rfl) (by kernel_rfl) ?_
  conv => whnf
  refine VLoop.inv (α := Nat) [(4, 6), (8, 19)] (fun i => [(8, .int .i64 i)]) (fun i w' => Only [] w w' ∧ i ≤ n ∧ ∀ j (hj : j < l.length), j < i → p l[j] = false) (fun i => n - i) 0 (by kernel_rfl) ⟨rfl, trivial⟩ ⟨Only.refl _ _, Nat.zero_le _, fun j hj h => absurd h (Nat.not_lt_zero _)⟩ ?_
  rintro i wr j ⟨ho, hi, hall⟩
  conv => whnf
  refine VIf.dec (fun ht => ?_) (fun ht => ?_)
  · have hi2 : i < l.length := by omega
    have hb := h.o ho
    obtain ⟨b, off, rfl, -⟩ := hb.some_ (by omega)
    conv => whnf
    refine ⟨_, _, rfl, i, off + i, rfl, by omega, p1 _ _, ?_⟩
    conv => whnf
    refine ⟨_, Loads.one (by kernel_rfl) (hb.ld (List.getElem?_eq_getElem hi2)), ?_⟩
    conv => whnf
    refine (hp l[i] (List.getElem_mem hi2) _ ho).mono ?_
    rintro v w2 ⟨rfl, ho2⟩
    conv => whnf
    refine VIf.of (b := p l[i]) (fun hB => ?_) (fun hB => ?_)
    · conv => whnf
      refine ⟨congrArg (Value.int IntKind.i64) ?_, ho.t0 ho2⟩
      rw [idx_here hi2 (fun j hj => hall j (Nat.lt_trans hj hi2) hj) hB]
    · conv => whnf
      refine ⟨i + 1, ⟨congrArg (Value.int IntKind.i64) (by rw [wi64]; omega), trivial⟩, ⟨ho.t0 ho2, by omega, fun j hj hji => ?_⟩, by omega⟩
      rcases Nat.lt_or_ge j i with hlt | hge
      · exact hall j hj hlt
      · obtain rfl : j = i := by omega
        exact hB
  · conv => whnf
    refine ⟨congrArg (Value.int IntKind.i64) ?_, ho⟩
    rw [idx_none]
    intro x hx
    obtain ⟨j, hj, rfl⟩ := List.getElem_of_mem hx
    exact hall j hj (by omega)
set_option maxRecDepth 100000 in
theorem zeroB_does {w : World} {x : UInt8} : Does Tryz.prog 243 [u8 x] w (fun v w' => v = .bool (x != 0) ∧ Only [] w w') := by
  refine Does.enter (fn := Tryz.f243) (by kernel_rfl) rfl (by kernel_rfl) (by kernel_rfl) ?_
  conv => whnf
  refine ⟨congrArg Value.bool ?_, Only.refl _ _⟩
  by_cases h : x = 0
  · subst h
    rfl
  · have h2 : (x.toNat : Int) ≠ 0 := fun e => h (UInt8.toNat_inj.1 (by simpa using e))
    have h3 : (x != 0) = true := by simpa using h
    rw [h3]
    simpa using h2
def allZ (l : List UInt8) : Bool := l.all (fun c => c == 0)
theorem idx_z (l : List UInt8) : decide (idxI (fun c => c != 0) l ≥ 0) = !allZ l := by
  unfold idxI allZ
  cases h : l.findIdx? (fun c => c != 0) with
  | none =>
    rw [List.findIdx?_eq_none_iff] at h
    have : l.all (fun c => c == 0) = true := by
      rw [List.all_eq_true]
      intro x hx
      have := h x hx
      simpa using this
    rw [this]
    rfl
  | some i =>
    obtain ⟨hi, h1, -⟩ := List.findIdx?_eq_some_iff_getElem.1 h
    have : l.all (fun c => c == 0) = false := by
      rw [List.all_eq_false]
      exact ⟨l[i], List.getElem_mem hi, by simpa using h1⟩
    rw [this]
    simp
set_option maxRecDepth 100000 in
theorem containsB_does {w : World} {G : List Nat} {A : Option Addr} {n c : Nat} {l : List UInt8} (h : Bs w G A n l) (hn : n ≤ 9223372036854775807) :
    Does Tryz.prog 242 [.slice A n c, .func (.func 243) #[] #[]] w (fun v w' => v = .bool (!allZ l) ∧ Only [] w w') := by
  refine Does.enter (fn := Tryz.f242) (by kernel_rfl) rfl (by kernel_rfl) (by kernel_rfl) ?_
  conv => whnf
  refine (indexB_does (p := fun c => c != 0) h hn (fun x _ w' _ => zeroB_does)).mono ?_
  rintro v w1 ⟨rfl, ho⟩
  conv => whnf
  exact ⟨congrArg Value.bool (idx_z l), ho⟩
set_option maxRecDepth 100000 in
theorem empty_does {w : World} {G : List Nat} {A : Option Addr} {n c : Nat} {l : List UInt8} (h : Bs w G A n l) (hn : n ≤ 9223372036854775807) :
    Does Tryz.prog 210 [.slice A n c] w (fun v w' => v = .bool (allZ l) ∧ Only [] w w') := by
  refine Does.enter (fn := Tryz.f210) (by kernel_rfl) rfl (by kernel_rfl) (by kernel_rfl) ?_
  conv => whnf
  refine (containsB_does h hn).mono ?_
  rintro v w1 ⟨rfl, ho⟩
  conv => whnf
  exact ⟨congrArg Value.bool (by simp), ho⟩
/-- May bytes stand as options? 0: they may. -/
def optF : Nat → List UInt8 → Int
  | 0, _ => 0
  | _ + 1, [] => 0
  | f + 1, k :: r =>
    if k = 0 then (if allZ r = true then 0 else 40)
    else if k = 1 then optF f r
    else match r with
      | [] => 40
      | m :: _ => if m.toNat < 2 ∨ r.length + 1 < m.toNat then 40 else optF f ((k :: r).drop m.toNat)
theorem optF_nil (f : Nat) : optF f [] = 0 := by cases f <;> rfl
theorem optF_bad {f : Nat} {k q : UInt8} {r : List UInt8} (hk0 : k ≠ 0) (hk1 : k ≠ 1) (h : q.toNat < 2 ∨ (q :: r).length + 1 < q.toNat) : optF (f + 1) (k :: q :: r) = 40 := by
  show (if k = 0 then _ else if k = 1 then _ else if q.toNat < 2 ∨ (q :: r).length + 1 < q.toNat then (40 : Int) else _) = 40
  rw [if_neg hk0, if_neg hk1, if_pos h]
theorem optF_go {f : Nat} {k q : UInt8} {r : List UInt8} (hk0 : k ≠ 0) (hk1 : k ≠ 1) (h : ¬ (q.toNat < 2 ∨ (q :: r).length + 1 < q.toNat)) : optF (f + 1) (k :: q :: r) = optF f ((k :: q :: r).drop q.toNat) := by
  show (if k = 0 then _ else if k = 1 then _ else if q.toNat < 2 ∨ (q :: r).length + 1 < q.toNat then (40 : Int) else _) = _
  rw [if_neg hk0, if_neg hk1, if_neg h]
theorem shape_1 {k : UInt8} (h : shapeI k.toNat = 1) : k = 0 := by
  unfold shapeI at h
  split at h
  · rename_i e
    exact UInt8.toNat_inj.1 (by simpa using e)
  · split at h <;> simp at h
theorem shape_2 {k : UInt8} (h : shapeI k.toNat = 2) : k = 1 := by
  unfold shapeI at h
  split at h
  · simp at h
  · split at h
    · rename_i e
      exact UInt8.toNat_inj.1 (by simpa using e)
    · simp at h
theorem shape_0 {k : UInt8} (h1 : shapeI k.toNat ≠ 1) (h2 : shapeI k.toNat ≠ 2) : k ≠ 0 ∧ k ≠ 1 := by
  constructor
  · rintro rfl
    exact h1 rfl
  · rintro rfl
    exact h2 rfl
set_option maxRecDepth 100000 in
theorem optsParse_does {w : World} {G : List Nat} {A : Option Addr} {n c : Nat} {l : List UInt8} (h : Bs w G A n l) (hs : Shp w) (hn : n ≤ 40) (hc : n ≤ c) (hcm : c ≤ 9223372036854775807) :
    Does Tryz.prog 150 [.slice A n c] w (fun v w' => (∃ B m d, v = .tuple ⟨[.slice B m d, .int .i64 (optF n l)]⟩) ∧ Only [] w w') := by
  have hl := h.len
  refine Does.enter (fn := Tryz.f150) (by kernel_rfl) rfl (by kernel_rfl) (by kernel_rfl) ?_
  conv => whnf
  refine VJoin.cut (α := Option Addr × Nat × Nat) [(2, 75)] (fun s => [(4, .slice s.1 s.2.1 s.2.2)]) (fun s w' => Only [] w w' ∧ optF n l = 0) (by kernel_rfl) ?_ ?_
  · conv => whnf
    refine VLoop.inv (α := Option Addr × Nat × Nat × Nat × Nat) [(2, 75)] (fun | (B, m, d, at_, f) => [(4, .slice B m d), (5, .int .i64 (at_ : Nat))])
      (fun | (B, m, d, at_, f) => fun w' => Only [] w w' ∧ at_ ≤ n ∧ m ≤ at_ ∧ n - at_ ≤ f ∧ optF f (l.drop at_) = optF n l ∧ ∃ F xs, Row w' 249 2 F B m d xs ∧ ∀ k ∈ F, w.heap.size ≤ k)
      (fun | (B, m, d, at_, f) => n - at_) (none, 0, 0, 0, n) (by kernel_rfl) ⟨rfl, rfl, trivial⟩ ⟨Only.refl _ _, Nat.zero_le _, Nat.zero_le _, Nat.le_refl _, rfl, [], [], Row.nil _ _ _ _, by simp⟩ ?_
    rintro ⟨B, m, d, at_, f⟩ wr j ⟨ho, hat, hm, hf, hopt, F, xs, hr, hF⟩
    conv => whnf
    refine VIf.dec (fun ht => ?_) (fun ht => ?_)
    · have hi2 : at_ < l.length := by omega
      obtain ⟨f, rfl⟩ : ∃ g, f = g + 1 := ⟨f - 1, by omega⟩
      have hb := h.o ho
      obtain ⟨b, off, rfl, -⟩ := hb.some_ (by omega)
      have hdrop : l.drop at_ = l[at_] :: l.drop (at_ + 1) := List.drop_eq_getElem_cons hi2
      conv => whnf
      refine ⟨_, _, rfl, at_, off + at_, rfl, by omega, p1 _ _, ?_⟩
      conv => whnf
      refine ⟨_, Loads.one (by kernel_rfl) (hb.ld (List.getElem?_eq_getElem hi2)), ?_⟩
      obtain ⟨k, hk⟩ : ∃ k, l[at_] = k := ⟨_, rfl⟩
      rw [hk] at hdrop ⊢
      rw [hdrop] at hopt
      have hk8 := u8_le k
      have ek : IntKind.i64.wrap (k.toNat : Int) = (k.toNat : Int) := by rw [wi64]; omega
      have ea : IntKind.i64.wrap ((at_ : Int) + 1) = ((at_ + 1 : Nat) : Int) := by rw [wi64]; omega
      have hlr : (l.drop (at_ + 1)).length = n - at_ - 1 := by rw [List.length_drop]; omega
      conv => whnf
      rw [ek]
      refine (shape_does (hs.o ho)).mono ?_
      rintro v w1 ⟨rfl, rfl⟩
      conv => whnf
      refine VIf.eq (fun e1 => ?_) (fun e1 => ?_)
      · have hk0 := shape_1 e1
        subst hk0
        have hcut := hb.cut (lo := at_) (hi := n) (m := c) (by omega) (by omega) (Nat.le_refl _) rfl
        rw [List.take_of_length_le (by rw [List.length_drop]; omega), hdrop] at hcut
        conv => whnf
        refine ⟨at_, n, c, rfl, rfl, rfl, by omega, by omega, by omega, _, n - at_, c - at_, rfl, rfl, rfl, ?_⟩
        conv => whnf
        refine (empty_does hcut (by omega)).mono ?_
        rintro v w1 ⟨rfl, ho1⟩
        have hz : allZ (0 :: l.drop (at_ + 1)) = allZ (l.drop (at_ + 1)) := by simp [allZ]
        conv => whnf
        refine VIf.not (VIf.of (b := allZ (0 :: l.drop (at_ + 1))) (fun hB => ?_) (fun hB => ?_))
        · conv => whnf
          refine ⟨(B, m, d), ⟨rfl, trivial⟩, ho.t0 ho1, ?_⟩
          rw [← hopt]
          rw [hz] at hB
          simp [optF, hB]
        · conv => whnf
          refine ⟨⟨none, 0, 0, ?_⟩, ho.t0 ho1⟩
          rw [← hopt]
          rw [hz] at hB
          simp [optF, hB]
      · conv => whnf
        refine VIf.eq (fun e2 => ?_) (fun e2 => ?_)
        · have hk1 := shape_2 e2
          subst hk1
          conv => whnf
          refine vFall.append 249 2 32 rfl (by kernel_rfl) rfl (hr.alloc _) rfl (Sl.new wr 249 2 [.int .i64 (IntKind.i64.wrap ((1 : UInt8).toNat : Int)), .slice none 0 0] 1 rfl) (by simp [Value.oneCell']) (by omega) (by omega) ?_
          intro B2 d2 F2 w2 hr2 ho2 hF2
          have hal := (Only.refl [] wr).alloc (.cells ⟨[.int .i64 (IntKind.i64.wrap ((1 : UInt8).toNat : Int)), .slice none 0 0]⟩ 249)
          have how : Only [] w w2 := (ho.t0 hal).trans ho2 (fun x hx => .inr (hF x hx))
          conv => whnf
          rw [ea]
          refine ⟨(B2, m + 1, d2, at_ + 1, f), ⟨rfl, rfl, trivial⟩, ⟨how, by omega, by omega, by omega, ?_, F2, _, hr2, fun x hx => (hF2 x hx).elim (hF x) (fun h => Nat.le_trans (Nat.le_trans ho.size hal.size) h)⟩, by show n - (at_ + 1) < n - at_; omega⟩
          rw [← hopt]
          simp [optF]
        · obtain ⟨hk0, hk1⟩ := shape_0 e1 e2
          conv => whnf
          rw [ea]
          refine VIf.dec (fun hs1 => ?_) (fun hs1 => ?_)
          · conv => whnf
            refine ⟨⟨none, 0, 0, ?_⟩, ho⟩
            have : l.drop (at_ + 1) = [] := List.drop_eq_nil_of_le (by omega)
            rw [← hopt, this]
            simp [optF, hk0, hk1]
          · have hi3 : at_ + 1 < l.length := by omega
            have hd2 : l.drop (at_ + 1) = l[at_ + 1] :: l.drop (at_ + 2) := List.drop_eq_getElem_cons hi3
            obtain ⟨q, hq⟩ : ∃ q, l[at_ + 1] = q := ⟨_, rfl⟩
            have hq8 := u8_le q
            rw [hq] at hd2
            have eq : IntKind.i64.wrap (q.toNat : Int) = (q.toNat : Int) := by rw [wi64]; omega
            conv => whnf
            refine ⟨_, _, rfl, at_ + 1, off + (at_ + 1), ea, by omega, p1 _ _, ?_⟩
            conv => whnf
            refine ⟨_, Loads.one (by kernel_rfl) (hb.ld (List.getElem?_eq_getElem hi3)), ?_⟩
            rw [hq]
            conv => whnf
            rw [eq]
            have es : IntKind.i64.wrap ((n : Int) - (at_ : Int)) = ((n - at_ : Nat) : Int) := by rw [wi64]; omega
            have ea2 : IntKind.i64.wrap ((at_ : Int) + 2) = ((at_ + 2 : Nat) : Int) := by rw [wi64]; omega
            have eaq : IntKind.i64.wrap ((at_ : Int) + (q.toNat : Int)) = ((at_ + q.toNat : Nat) : Int) := by rw [wi64]; omega
            conv => whnf
            refine VIf.dec (fun h2 => ?_) (fun h2 => ?_)
            · conv => whnf
              refine ⟨⟨none, 0, 0, ?_⟩, ho⟩
              rw [← hopt, hd2, optF_bad hk0 hk1 (.inl (by omega))]
            · conv => whnf
              refine VIf.dec (fun h3 => ?_) (fun h3 => ?_)
              · rw [es] at h3
                conv => whnf
                refine ⟨⟨none, 0, 0, ?_⟩, ho⟩
                rw [← hopt, hd2, optF_bad hk0 hk1 (.inr (by rw [← hd2, hlr]; omega))]
              · rw [es] at h3
                have hcut := hb.cut (lo := at_ + 2) (hi := at_ + q.toNat) (m := c) (by omega) (by omega) (by omega) rfl
                conv => whnf
                refine ⟨at_ + 2, at_ + q.toNat, c, ea2, eaq, rfl, by omega, by omega, by omega, _, at_ + q.toNat - (at_ + 2), c - (at_ + 2), rfl, rfl, rfl, ?_⟩
                conv => whnf
                refine (cloneB_does hcut (by omega)).mono ?_
                intro v w1 hv
                obtain ⟨A1, c1, G1, rfl, -, -, -, ho1, -⟩ := hv.bs
                have hF1 := hr.only ho1 (by simp)
                conv => whnf
                refine vFall.append 249 2 32 rfl (by kernel_rfl) rfl (hF1.alloc _) rfl (Sl.new w1 249 2 [.int .i64 (IntKind.i64.wrap (k.toNat : Int)), .slice A1 ((l.drop (at_ + 2)).take (at_ + q.toNat - (at_ + 2))).length c1] 1 rfl) (by simp [Value.oneCell']) (by omega) (by omega) ?_
                intro B2 d2 F2 w2 hr2 ho2 hF2
                have hal := ho1.alloc (.cells ⟨[.int .i64 (IntKind.i64.wrap (k.toNat : Int)), .slice A1 ((l.drop (at_ + 2)).take (at_ + q.toNat - (at_ + 2))).length c1]⟩ 249)
                have how : Only [] w w2 := (ho.t0 hal).trans ho2 (fun x hx => .inr (hF x hx))
                conv => whnf
                rw [eaq]
                refine ⟨(B2, m + 1, d2, at_ + q.toNat, f), ⟨rfl, rfl, trivial⟩, ⟨how, by omega, by omega, by omega, ?_, F2, _, hr2, fun x hx => (hF2 x hx).elim (hF x) (fun h => Nat.le_trans (Nat.le_trans ho.size hal.size) h)⟩, by show n - (at_ + q.toNat) < n - at_; omega⟩
                rw [← hopt, hd2, optF_go hk0 hk1 (by rw [← hd2, hlr]; omega), ← hd2, ← hdrop, List.drop_drop]
    · conv => whnf
      refine ⟨(B, m, d), ⟨rfl, trivial⟩, ho, ?_⟩
      rw [← hopt, List.drop_eq_nil_of_le (by omega), optF_nil]
  · rintro ⟨B, m, d⟩ wr j ⟨ho, h0⟩
    conv => whnf
    exact ⟨⟨B, m, d, by rw [h0]⟩, ho⟩
def optsOk (l : List UInt8) : Bool := decide (l.length ≤ 40) && decide (l.length % 4 = 0) && decide (optF l.length l = 0)
set_option maxRecDepth 100000 in
theorem optsValid_does {w : World} {G : List Nat} {A : Option Addr} {n c : Nat} {l : List UInt8} (h : Bs w G A n l) (hs : Shp w) (hc : n ≤ c) (hcm : c ≤ 9223372036854775807) :
    Does Tryz.prog 72 [.slice A n c] w (fun v w' => v = .bool (optsOk l) ∧ Only [] w w') := by
  have hl := h.len
  have hrem : (n : Int).tmod 4 = ((n % 4 : Nat) : Int) := by rw [Int.tmod_eq_emod_of_nonneg (by omega)]; omega
  refine Does.enter (fn := Tryz.f72) (by kernel_rfl) rfl (by kernel_rfl) (by kernel_rfl) ?_
  conv => whnf
  refine VIf.dec (fun h1 => ?_) (fun h1 => ?_)
  · conv => whnf
    refine ⟨congrArg Value.bool ?_, Only.refl _ _⟩
    simp only [optsOk, hl, show ¬ n ≤ 40 by omega, decide_false, Bool.false_and]
  · conv => whnf
    refine VIf.ne (fun h2 => ?_) (fun h2 => ?_)
    · rw [hrem] at h2
      conv => whnf
      refine ⟨congrArg Value.bool ?_, Only.refl _ _⟩
      simp only [optsOk, hl, show ¬ n % 4 = 0 by omega, decide_false, Bool.false_and, Bool.and_false]
    · rw [hrem] at h2
      conv => whnf
      refine (optsParse_does h hs (by omega) hc hcm).mono ?_
      rintro v w1 ⟨⟨B, m, d, rfl⟩, ho⟩
      conv => whnf
      refine ⟨congrArg Value.bool ?_, ho⟩
      simp only [optsOk, hl, show n ≤ 40 by omega, show n % 4 = 0 by omega, decide_true, Bool.true_and]
      by_cases e : optF n l = 0 <;> simp [e]
end Go.Proofs.YtofomopdaponbaaGreatDoor
